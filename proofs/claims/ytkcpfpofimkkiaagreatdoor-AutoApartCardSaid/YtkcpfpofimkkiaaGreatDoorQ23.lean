/- The closure that compares two classes. · The program's sets: Other, Size. · slices.Grow of nil, slices.Concat of ranges; points.Join. -/
import Derived.Test.YtkcpfpofimkkiaaGreatDoorQ10
import Derived.Test.YtkcpfpofimkkiaaGreatDoorQ22
import Derived.Deep.Cut
import Derived.Lib.AppendZeros
namespace Go.Proofs.YtkcpfpofimkkiaaGreatDoor
open Go.RowKit BigFrame
set_option linter.unusedVariables false
set_option linter.unusedSimpArgs false
set_option maxRecDepth 100000

theorem classes1_any (A A2 : Option Addr) (n c n2 c2 : Nat) (l l2 : List Rg) (w : World) (B B2 : Nat) (hr : RdG w B A l) (hr2 : RdG w B2 A2 l2) (hl : l.length = n) (hl2 : l2.length = n2) (h0 : 0 < n) (h02 : 0 < n2)
    (hb : 0 ≤ fstR l ∧ fstR l ≤ 1114111) (hb2 : 0 ≤ fstR l2 ∧ fstR l2 ≤ 1114111) :
    Calls Tryz.prog 49 #[.slice A n c, .slice A2 n2 c2] w fun e w' => e = .returned (.int .i64 (fstR l - fstR l2)) ∧ ∃ q, w' = w.drewN q := by
  obtain ⟨b, off, rfl, _, hc⟩ := hr.at_ (by omega)
  obtain ⟨b2, off2, rfl, _, hc2⟩ := hr2.at_ (by omega)
  have z1 := (hc 0 (by omega)).1
  have z2 := (hc2 0 (by omega)).1
  have e1 : (nthR l 0).1 = fstR l := by cases l <;> rfl
  have e2 : (nthR l2 0).1 = fstR l2 := by cases l2 <;> rfl
  rw [e1] at z1
  rw [e2] at z2
  simp only [Nat.zero_mul, Nat.add_zero] at z1 z2
  clear hc hc2 e1 e2 hr hr2 hl hl2
  generalize fstR l = x at *
  generalize fstR l2 = y at *
  obtain ⟨p1, p2⟩ := hb
  obtain ⟨p3, p4⟩ := hb2
  go_enter Tryz.func49, Tryz.ntmps49
  go_wp2_with fail
  go_quiet (fail)
  go_wp2_with fail
  go_ret
  exact ⟨rfl, _, rfl⟩
end Go.Proofs.YtkcpfpofimkkiaaGreatDoor
namespace Go.Proofs.YtkcpfpofimkkiaaGreatDoor
open Go.RowKit BigFrame
set_option linter.unusedVariables false
set_option linter.unusedSimpArgs false
set_option maxRecDepth 100000

theorem othF_drop {d : List Rg} {k : Nat} (h : k < d.length) (f : Int) : othF f (d.drop k) = (if f < (nthR d k).1 then [(f, (nthR d k).1 - 1)] else []) ++ othF ((nthR d k).2 + 1) (d.drop (k + 1)) := by
  rw [List.drop_eq_getElem_cons h, nthR_get h]; rfl
set_option maxHeartbeats 2000000 in
theorem other_any (A : Option Addr) (n c : Nat) (l : List Rg) (w : World) (B : Nat) (hB : B ≤ w.heap.size) (hr : RdG w B A l) (hl : l.length = n) (hn : n ≤ 400) :
    Calls Tryz.prog 68 #[.slice A n c] w fun e w' => ∃ v out, e = .returned v ∧ OwG w' w.heap.size v out ∧ IsCan out (fun p => isPt p && !inR l p) ∧ Below w.heap.size w w' ∧ out.length ≤ n + 1 := by
  have hb := canon_any A n c l w B hB hr hl hn
  have HC := Lib.hid hb
  clear hb hr hl
  go_enter Tryz.func68, Tryz.ntmps68
  go_wp2_with fail
  refine HC.out.mono ?_
  rintro e w1 ⟨v, d, rfl, h1, h2, h3, h4⟩
  clear HC
  obtain ⟨A1, c1, rfl, q1, q2, q3⟩ := h1.form
  have HD := Lib.hid q3; have HCAN := Lib.hid h2; have HB1 := Lib.hid h3
  have hm : d.length ≤ 400 := by omega
  have HDL := Lib.hid h4
  clear h1 h2 h3 h4 q1 q2 q3
  go_wp2_with fail
  go_loopw [3, 4, 10] (fun v s i wr => ∃ (k : Nat) (f : Int) (out : List Rg), k ≤ d.length ∧ i = .int .i64 (k : Int) ∧ s = .int .i64 f ∧ 0 ≤ f ∧ f ≤ 1114112 ∧ Hid (OwG wr w1.heap.size v out) ∧ Hid (othF 0 d = out ++ othF f (d.drop k)) ∧ Hid (out.length ≤ k) ∧ Hid (Below w1.heap.size w1 wr)) (fun _ _ i _ => d.length - (intOf i).toNat)
  case atStart => exact ⟨0, 0, [], Nat.zero_le _, rfl, rfl, by omega, by omega, OwG.nil _ _, rfl, Nat.zero_le _, Below.refl _ _⟩
  case round =>
    as_aux_lemma =>
      obtain ⟨k, f, out, hk, rfl, rfl, hf0, hf1, HO, HT, HN, HB⟩ := hrel
      have hsz := HB.out.size
      by_cases hlt : k < d.length
      · as_aux_lemma =>
          obtain ⟨b, off, rfl, hb, hc⟩ := (HD.out.below HB.out).at_ (by omega)
          obtain ⟨z1, z2⟩ := hc k hlt
          have hs := othF_drop hlt f
          have hbd := CanF.bd HCAN.out.can _ (mem_nthR hlt)
          unfold MP at hbd
          have HS := Lib.hid hs
          clear hc hs
          generalize nthR d k = r at *
          obtain ⟨lo, hi⟩ := r
          simp only at z1 z2 hbd
          have hbx : Below wr.heap.size wr (wr.alloc (.cells #[.int .i64 lo, .int .i64 hi] 62)) := (Below.refl _ _).alloc (Nat.le_refl _) _
          have hsa : (wr.alloc (.cells #[.int .i64 lo, .int .i64 hi] 62)).heap.size = wr.heap.size + 1 := by simp
          have HSA := Lib.hid hsa
          have HO1 := Lib.hid (HO.out.ext hbx)
          have HB2 := Lib.hid (HB.out.trans (hbx.mono hsz))
          have z3 : (wr.alloc (.cells #[.int .i64 lo, .int .i64 hi] 62)).cell? ⟨wr.heap.size, 1, none⟩ = some (.int .i64 hi) := by rw [cell_of_row _ wr.heap.size 1 #[.int .i64 lo, .int .i64 hi] 62 (0, 0) (heap_alloc_new wr _)]; rfl
          have Z3 := Lib.hid z3
          have hn4 : out.length ≤ 400 := by have := HN.out; omega
          have HOL := Lib.hid (fun k hk => (HO.out.lt k hk).2)
          clear hsa hbx HO z3
          by_cases hlf : f < lo
          · as_aux_lemma =>
              have d1 : decide (f < lo) = true := decide_eq_true hlf
              have HT2 : Hid (othF 0 d = (out ++ [(f, lo - 1)]) ++ othF (hi + 1) (d.drop (k + 1))) := Lib.hid (by rw [HT.out, HS.out]; simp only; rw [if_pos hlf, List.append_assoc])
              have HN2 : Hid ((out ++ [(f, lo - 1)]).length ≤ k + 1) := Lib.hid (by have := HN.out; rw [List.length_append]; exact Nat.succ_le_succ this)
              clear HS HT
              go_wp2_with (first
                | (at_builtin; refine wpList_app elRg rfl (.tmp 18) (.tmp 24) rfl w1.heap.size _ out.length 1 (rv out) [.int .i64 f, .int .i64 (lo - 1)] rfl HO1.out (by rw [HSA.out]; rfl) rfl (by simp [Value.oneCell']) (by omega) (by omega) HB2.out.size ?_; intro v2 w2 hown2 hg2 hat2; have HW2 := Lib.hid (OwG.snoc hown2 rfl); have HB3 := Lib.hid (HB2.out.grown hg2 HB2.out.size (fun k e => own_base HO1.out k e)); have z4 : w2.cell? ⟨wr.heap.size, 1, none⟩ = some (.int .i64 hi) := (World.cell?_of_block (hg2.block wr.heap.size (by rw [HSA.out]; omega) (fun e => by first | (have := HOL.out _ e; omega) | (have := HOL.out _ e.symm; omega)))).trans Z3.out; clear hown2 hg2 hat2))
              go_roundw
              case rel => exact ⟨k + 1, hi + 1, _, by omega, by go_num, rfl, by omega, by omega, HW2, HT2, HN2, HB3⟩
              case measure => simp [intOf]; omega
          · as_aux_lemma =>
              have d1 : decide (f < lo) = false := decide_eq_false hlf
              have HT2 : Hid (othF 0 d = out ++ othF (hi + 1) (d.drop (k + 1))) := Lib.hid (by rw [HT.out, HS.out]; simp only; rw [if_neg hlf, List.nil_append])
              clear HS HT
              go_wp2_with fail
              go_roundw
              case rel => exact ⟨k + 1, hi + 1, out, by omega, by go_num, rfl, by omega, by omega, HO1, HT2, by have := HN.out; show out.length ≤ k + 1; omega, HB2⟩
              case measure => simp [intOf]; omega
      · as_aux_lemma =>
          have hdr : d.drop k = [] := List.drop_eq_nil_of_le (by omega)
          have ht := HT.out
          rw [hdr] at ht
          have hcan := oth_is HCAN.out
          have HCN := Lib.hid hcan
          have hn4 : out.length ≤ 400 := by have := HN.out; omega
          have HBW := Lib.hid (HB1.out.trans (HB.out.mono HB1.out.size))
          have HLN := Lib.hid (show out.length ≤ n by have := HN.out; have := HDL.out; omega)
          have hB1s := HB1.out.size
          clear hdr hcan HT HD HCAN
          by_cases hlf : f ≤ 1114111
          · as_aux_lemma =>
              have d1 : decide (f ≤ 1114111) = true := decide_eq_true hlf
              have HT2 : Hid (othF 0 d = out ++ [(f, 1114111)]) := Lib.hid (by rw [ht]; congr 1; exact if_pos hlf)
              clear ht
              go_wp2_with (first
                | (at_builtin; refine wpList_app elRg rfl (.tmp 32) (.tmp 35) rfl w1.heap.size _ out.length 1 (rv out) [.int .i64 f, .int .i64 1114111] rfl HO.out rfl rfl (by simp [Value.oneCell']) (by omega) (by omega) hsz ?_; intro v2 w2 hown2 hg2 hat2; have HW2 := Lib.hid (OwG.snoc hown2 rfl); have HB3 := Lib.hid (HBW.out.grown hg2 (by omega) (fun k e => by have := own_base HO.out k e; omega)); clear hown2 hg2 hat2))
              go_ret
              exact ⟨_, _, rfl, HW2.out.base hB1s, by rw [← HT2.out]; exact HCN.out, HB3.out, by rw [List.length_append]; exact Nat.succ_le_succ HLN.out⟩
          · as_aux_lemma =>
              have d1 : decide (f ≤ 1114111) = false := decide_eq_false hlf
              have HT2 : Hid (othF 0 d = out) := Lib.hid (by rw [ht]; have : othF f [] = [] := if_neg hlf; rw [this, List.append_nil])
              clear ht
              go_wp2_with fail
              go_ret
              exact ⟨_, rfl, out, HO.out.base hB1s, by rw [← HT2.out]; exact HCN.out, HBW.out, by have := HLN.out; omega⟩

end Go.Proofs.YtkcpfpofimkkiaaGreatDoor
namespace Go.Proofs.YtkcpfpofimkkiaaGreatDoor
open Go.RowKit BigFrame
set_option linter.unusedVariables false
set_option linter.unusedSimpArgs false
set_option maxRecDepth 100000

/-- The first k lists, one behind the other. -/
def catL (L : Nat → List Rg) : Nat → List Rg
  | 0 => []
  | k + 1 => catL L k ++ L k
def lenL (L : Nat → List Rg) : Nat → Nat
  | 0 => 0
  | k + 1 => lenL L k + (L k).length
theorem catL_len (L : Nat → List Rg) : ∀ k, (catL L k).length = lenL L k
  | 0 => rfl
  | k + 1 => by rw [catL, List.length_append, catL_len L k, lenL]
theorem lenL_le (L : Nat → List Rg) {m : Nat} : ∀ {k : Nat}, k ≤ m → lenL L k ≤ lenL L m := fun {k} h => by
  induction m with
  | zero => obtain rfl : k = 0 := by omega
            exact Nat.le_refl _
  | succ m ih =>
    by_cases e : k = m + 1
    · rw [e]; exact Nat.le_refl _
    · have := ih (by omega); rw [lenL]; omega

theorem inR_append {l m : List Rg} {p : Int} : inR (l ++ m) p = (inR l p || inR m p) := by
  unfold inR
  rw [memR_append]
  cases isPt p <;> simp
end Go.Proofs.YtkcpfpofimkkiaaGreatDoor
