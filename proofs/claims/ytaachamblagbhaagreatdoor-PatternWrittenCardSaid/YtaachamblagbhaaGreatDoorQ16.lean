/- strings.Join at this program. · The document's count: a number in a pattern's text. · The document's point: a code point of a pattern's text. -/
import Derived.Test.YtaachamblagbhaaGreatDoorQ15
import Derived.Test.YtaachamblagbhaaGreatDoorQ11
import Derived.Deep.Cut
import Derived.Deep.CutRange
import Derived.Test.YtaachamblagbhaaGreatDoorQ14
namespace Go.Proofs.YtaachamblagbhaaGreatDoor
open Go.RowKit BigFrame
set_option linter.unusedVariables false
set_option linter.unusedSimpArgs false
set_option maxRecDepth 100000

theorem join_none (A : Option Addr) (c : Nat) (sep : List UInt8) (w : World) :
    Calls Tryz.prog 30 #[.slice A 0 c, bs sep] w fun e w' => e = .returned (bs []) ∧ w' = w := by
  unfold bs
  go_enter Tryz.func30, Tryz.ntmps30
  go_wp2_with fail
  go_ret
  exact ⟨rfl, rfl⟩
theorem join_one (b off c : Nat) (x sep : List UInt8) (w : World) (h : w.cell? ⟨b, off, none⟩ = some (bs x)) :
    Calls Tryz.prog 30 #[.slice (some ⟨b, off, none⟩) 1 c, bs sep] w fun e w' => e = .returned (bs x) ∧ w' = w := by
  unfold bs at h ⊢
  go_enter Tryz.func30, Tryz.ntmps30
  go_wp2_with fail
  go_ret
  exact ⟨rfl, rfl⟩
def sumL (l : List (List UInt8)) : Nat := (l.map List.length).sum
theorem sumL_take {l : List (List UInt8)} {k : Nat} {x : List UInt8} (h : l[k]? = some x) : sumL (l.take (k + 1)) = sumL (l.take k) + x.length := by
  unfold sumL
  rw [List.take_add_one, h]
  simp
theorem sumL_le {l : List (List UInt8)} (k : Nat) : sumL (l.take k) ≤ sumL l := by
  have := List.take_append_drop k l
  have h2 : sumL l = sumL (l.take k) + sumL (l.drop k) := by
    conv => lhs; rw [← this]
    unfold sumL
    rw [List.map_append, List.sum_append]
  omega
theorem tlJ_take {sep : List UInt8} {l : List (List UInt8)} {k : Nat} {x : List UInt8} (h : l[k]? = some x) : tlJ sep (l.take (k + 1)) = tlJ sep (l.take k) ++ sep ++ x := by
  have key : ∀ (a : List (List UInt8)), tlJ sep (a ++ [x]) = tlJ sep a ++ sep ++ x := fun a => by
    induction a with
    | nil => simp [tlJ]
    | cons y a ih => rw [List.cons_append, tlJ, ih, tlJ]; simp
  rw [List.take_add_one, h]
  exact key _

set_option maxHeartbeats 8000000 in
theorem join_many (b off n c : Nat) (xs : List (List UInt8)) (sep : List UInt8) (w : World) (hcl : ∀ j x, xs[j]? = some x → w.cell? ⟨b, off + j, none⟩ = some (bs x)) (hb : b < w.heap.size) (hn : xs.length = n) (h2 : 2 ≤ n) (h60 : n ≤ 60) (hcap : n ≤ c) (hc63 : c ≤ 9223372036854775807) (hsep : sep.length ≤ 1) (hsum : sumL xs ≤ 100000) :
    Calls Tryz.prog 30 #[.slice (some ⟨b, off, none⟩) n c, bs sep] w fun e w' => e = .returned (bs (joinB sep xs)) ∧ Below w.heap.size w w' := by
  have HCL := Lib.hid hcl; have HN := Lib.hid hn; have HSUM := Lib.hid hsum
  have HSP := Lib.hid hsep
  clear hcl hn hsum hsep
  unfold bs
  go_enter Tryz.func30, Tryz.ntmps30
  go_upto_if 22 with (fail)
  go_cut [5] from 23 (fun t wx => t = .int .i64 ((sep.length * (n - 1) : Nat) : Int) ∧ wx = w)
  case first =>
    as_aux_lemma =>
      obtain ⟨m, rfl⟩ : ∃ m, n = m + 1 := ⟨n - 1, by omega⟩
      have hsp := HSP.out
      clear HSP
      rcases sep with _ | ⟨x, _ | ⟨y, t⟩⟩
      · rw [show decide (0 < ([] : List UInt8).length) = false from rfl]
        go_wp2_with fail
        go_meet
        case rel => exact ⟨by simp, rfl⟩
      · rw [show decide (0 < ([x] : List UInt8).length) = true from rfl]
        have hq : ¬ 9223372036854775807 / (m : Int) ≤ 1 := fun h => by
          have h1 : 2 ≤ 9223372036854775807 / (m : Int) := (Int.le_ediv_iff_mul_le (by omega)).2 (by omega)
          omega
        have hq2 : decide (9223372036854775807 / (m : Int) ≤ 1) = false := decide_eq_false hq
        clear hsp
        go_wp2_with fail
        go_meet
        case rel => exact ⟨by simp, rfl⟩
      · simp at hsp
  case rest =>
    obtain ⟨rfl, hw⟩ := hcut
    obtain rfl := hw.symm
    as_aux_lemma =>
      have hT0 : sep.length * (n - 1) ≤ 60 := by
        have := Nat.mul_le_mul HSP.out (show n - 1 ≤ 60 by omega)
        omega
      obtain ⟨T0, hT⟩ : ∃ T0, T0 = sep.length * (n - 1) := ⟨_, rfl⟩
      rw [← hT] at hT0 ⊢
      clear hT
      go_wp2_with fail
      go_loopw [5, 7, 41] (fun t u i wr => ∃ k a : Nat, k ≤ n ∧ i = .int .i64 (k : Int) ∧ t = .int .i64 ((T0 + a : Nat) : Int) ∧ a ≤ 100000 ∧ Hid (a = sumL (xs.take k)) ∧ wr = w) (fun _ _ i _ => n - (intOf i).toNat)
      case atStart => exact ⟨0, 0, Nat.zero_le _, rfl, rfl, by omega, Lib.hid rfl, rfl⟩
      case round =>
        as_aux_lemma =>
          obtain ⟨k, a, hk, rfl, rfl, ha, HA, rfl⟩ := hrel
          by_cases hlt : k < n
          · as_aux_lemma =>
              obtain ⟨x, hx⟩ : ∃ x, xs[k]? = some x := ⟨_, List.getElem?_eq_getElem (by rw [HN.out]; exact hlt)⟩
              have z := HCL.out k x hx
              unfold bs at z
              have hst := sumL_take hx
              have hle := sumL_le (l := xs) (k + 1)
              have HNW : Hid (a + x.length = sumL (xs.take (k + 1)) ∧ a + x.length ≤ 100000) := Lib.hid (by
                have h1 := HA.out; have h2 := HSUM.out
                omega)
              have hxl : a + x.length ≤ 100000 := HNW.out.2
              have hd : decide ((9223372036854775807 - ((T0 : Int) + a)) < (x.length : Int)) = false := decide_eq_false (by omega)
              clear hst hle hx
              go_wp2_with fail
              go_roundw
              case rel => exact ⟨k + 1, a + x.length, by omega, by go_num, by go_num, hxl, Lib.hid HNW.out.1, trivial⟩
              case measure => simp [intOf]; omega
          · as_aux_lemma =>
              obtain rfl : k = n := by omega
              clear HA
              obtain ⟨wz, rfl⟩ : ∃ wz : World, wz = wr := ⟨_, rfl⟩
              obtain ⟨g, hg⟩ : ∃ g, g = wz.heap.size := ⟨_, rfl⟩
              obtain ⟨w1, hw1⟩ : ∃ w1, w1 = wz.alloc (.cells #[.pointer none, .slice none 0 0] 78) := ⟨_, rfl⟩
              have hb1 : Below g wz w1 := by rw [hw1, hg]; exact (Below.refl _ _).alloc (Nat.le_refl _) _
              have hk1 : w1.heap[g]? = some (.cells #[.pointer none, .slice none 0 0] 78 (0, 0)) := by rw [hw1, hg]; exact heap_alloc_new wz _
              have HGR := Lib.hid (Grow_fresh g g (T0 + a) w1 (Nat.le_refl _) hk1 (by rw [hw1, hg]; simp) (by omega))
              have HB1 := Lib.hid hb1; have HG := Lib.hid hg
              have hbg : b < g := by rw [hg]; exact hb
              clear hb1 hk1
              go_upto_region 19 with (fail)
              rw [← hg, ← hw1]
              clear hw1 hg
              go_wp2_with fail
              refine HGR.out.mono ?_
              clear HGR
              rintro e w2 ⟨rfl, hbd, hb2⟩
              have HBD : Hid (Bld g g [] w2) := Lib.hid (.inr hbd)
              have HB2 := Lib.hid (HB1.out.trans hb2)
              have HCW : Hid (∀ W, Below g wz W → ∀ j x, xs[j]? = some x → W.cell? ⟨b, off + j, none⟩ = some (bs x)) := Lib.hid (fun W hW j x hx => (hW.cell (p := ⟨b, off + j, none⟩) hbg).trans (HCL.out j x hx))
              have hgw : g ≤ w2.heap.size := by
                have h1 := HB2.out.size
                have h2 := hbd.2
                obtain ⟨v, hbk, _, _⟩ := h2
                have := (Array.getElem?_eq_some_iff.1 hbk).1
                omega
              obtain ⟨x0, r, hxs⟩ : ∃ x0 r, xs = x0 :: r := by
                cases xs with
                | nil => exact absurd HN.out (by simp; omega)
                | cons a t => exact ⟨a, t, rfl⟩
              have z0 := HCW.out w2 HB2.out 0 x0 (by rw [hxs]; rfl)
              rw [Nat.add_zero] at z0
              have hx0 : x0.length ≤ 100000 := by
                have := HSUM.out
                rw [hxs] at this
                unfold sumL at this
                rw [List.map_cons, List.sum_cons] at this
                omega
              have HW0 := Lib.hid (write_any g g [] x0 w2 HBD.out (by simp; omega) hgw)
              have HXS := Lib.hid hxs
              unfold bs at z0 HW0
              clear hbd hb2 hxs
              go_wp2_with fail
              refine HW0.out.mono ?_
              clear HW0
              rintro e w3 ⟨rfl, hbd3, hb3⟩
              rw [List.nil_append] at hbd3
              have HBD3 := Lib.hid hbd3
              have HB3 := Lib.hid (HB2.out.trans hb3)
              have hs3 := hb3.size
              clear hbd3 hb3 z0
              obtain ⟨m, rfl⟩ : ∃ m, k = m + 1 := ⟨k - 1, by omega⟩
              have hrl : r.length = m := by have := HN.out; rw [HXS.out] at this; simpa using this
              have HRL := Lib.hid hrl
              clear hrl
              have HTL : Hid (∀ j, (tlJ sep (r.take j)).length ≤ 100060) := Lib.hid (fun j => by
                have key : ∀ l : List (List UInt8), (tlJ sep l).length = sep.length * l.length + sumL l := fun l => by
                  induction l with
                  | nil => simp [tlJ, sumL]
                  | cons y l ih =>
                    rw [tlJ, List.length_append, List.length_append, ih]
                    unfold sumL
                    rw [List.map_cons, List.sum_cons, List.length_cons, Nat.mul_succ]
                    omega
                have h1 := key (r.take j)
                have h2 : (r.take j).length ≤ 60 := by rw [List.length_take]; have := HRL.out; omega
                have h3 := Nat.mul_le_mul HSP.out h2
                have h4 := sumL_le (l := r) j
                have h5 : sumL r ≤ 100000 := by
                  have := HSUM.out
                  rw [HXS.out] at this
                  unfold sumL at this ⊢
                  rw [List.map_cons, List.sum_cons] at this
                  omega
                omega)
              have hgw3 : g ≤ w3.heap.size := by omega
              go_wp2_with fail
              go_loopw [10, 65] (fun u i wq => ∃ (j : Nat) (l : List UInt8), j ≤ m ∧ i = .int .i64 (j : Int) ∧ l.length ≤ 200100 ∧ Hid (l = x0 ++ tlJ sep (r.take j)) ∧ Hid (Bld g g l wq) ∧ g ≤ wq.heap.size ∧ Hid (Below g wz wq)) (fun _ i _ => m - (intOf i).toNat)
              case atStart => exact ⟨0, x0, Nat.zero_le _, rfl, by omega, Lib.hid (by simp [tlJ]), HBD3.out, hgw3, HB3.out⟩
              case round =>
                as_aux_lemma =>
                  obtain ⟨j, l, hj, rfl, hll, HLQ, HBL, hgs, HBW⟩ := hrel
                  obtain ⟨wo, rfl⟩ : ∃ wo : World, wo = wr := ⟨_, rfl⟩
                  by_cases hlt2 : j < m
                  · as_aux_lemma =>
                      obtain ⟨x, hx⟩ : ∃ x, r[j]? = some x := ⟨_, List.getElem?_eq_getElem (by rw [HRL.out]; exact hlt2)⟩
                      have z := HCW.out wo HBW.out (j + 1) x (by rw [HXS.out]; simpa using hx)
                      unfold bs at z
                      rw [show off + (j + 1) = off + 1 + j by omega] at z
                      have htk := tlJ_take (sep := sep) hx
                      have htl := HTL.out (j + 1)
                      have HNW : Hid (l ++ sep ++ x = x0 ++ tlJ sep (r.take (j + 1)) ∧ (l ++ sep ++ x).length ≤ 200100) := Lib.hid (by
                        have e : l ++ sep ++ x = x0 ++ tlJ sep (r.take (j + 1)) := by rw [htk, HLQ.out]; simp
                        refine ⟨e, ?_⟩
                        rw [e, List.length_append]
                        omega)
                      have hnl := HNW.out.2
                      rw [List.length_append, List.length_append] at hnl
                      have HW1 := Lib.hid (write_any g g l sep wo HBL.out (by omega) hgs)
                      unfold bs at HW1
                      clear htk htl hx
                      go_wp2_with fail
                      refine HW1.out.mono ?_
                      clear HW1
                      rintro e w4 ⟨rfl, hbd4, hb4⟩
                      have HW2 := Lib.hid (write_any g g (l ++ sep) x w4 hbd4 (by rw [List.length_append]; omega) (Nat.le_trans hgs hb4.size))
                      have HB4 := Lib.hid (HBW.out.trans hb4)
                      have hs4 := Nat.le_trans hgs hb4.size
                      unfold bs at HW2
                      clear hbd4 hb4
                      go_wp2_with fail
                      refine HW2.out.mono ?_
                      clear HW2
                      rintro e w5 ⟨rfl, hbd5, hb5⟩
                      have HBD5 := Lib.hid hbd5
                      have HB5 := Lib.hid (HB4.out.trans hb5)
                      have hs5 := Nat.le_trans hs4 hb5.size
                      clear hbd5 hb5
                      go_wp2_with fail
                      go_roundw
                      case rel => exact ⟨j + 1, _, by omega, by go_num, HNW.out.2, Lib.hid HNW.out.1, HBD5, hs5, HB5⟩
                      case measure => simp [intOf]; omega
                  · as_aux_lemma =>
                      obtain rfl : j = m := by omega
                      have HF : Hid (l = joinB sep xs) := Lib.hid (by
                        rw [HXS.out, joinB_cons, HLQ.out, List.take_of_length_le (by rw [HRL.out]; exact Nat.le_refl _)])
                      have HS := Lib.hid (y_Builder_String_any g g l wo HBL.out hgs)
                      go_wp2_with fail
                      refine HS.out.mono ?_
                      rintro e w4 ⟨rfl, hb4⟩
                      have HB4 := Lib.hid (HBW.out.trans hb4)
                      clear hb4
                      go_wp2_with fail
                      go_ret
                      exact ⟨ret_eq (by rw [← HF.out]; rfl), by rw [← HG.out]; exact HB4.out⟩
end Go.Proofs.YtaachamblagbhaaGreatDoor
namespace Go.Proofs.YtaachamblagbhaaGreatDoor
open Go.RowKit BigFrame
set_option linter.unusedVariables false
set_option linter.unusedSimpArgs false
set_option maxRecDepth 100000

theorem RS.step {w : World} {rb i o : Nat} {s : ByteArray} {c : UInt8} {t : List UInt8} (h : RS w rb s i o (c :: t)) : RS (w.setCell ⟨rb, 1, none⟩ (.int .i64 ((i : Int) + 1))) rb s (i + 1) o t :=
  ⟨h.asc, h.len, h.b.set_ 1 (.int .i64 ((i + 1 : Nat) : Int)), h.cons.2.2.2, h.cons.1⟩
def decV (l : List UInt8) : Int := l.foldl (fun n c => n * 10 + c.toNat - 48) 0
theorem decV_take {l : List UInt8} {k : Nat} {c : UInt8} (h : l[k]? = some c) : decV (l.take (k + 1)) = decV (l.take k) * 10 + c.toNat - 48 := by
  unfold decV
  rw [List.take_add_one, h, List.foldl_append]
  rfl
/-- The digits of a small number. -/
theorem small_digits {n : Int} (h0 : 0 ≤ n) (h1 : n ≤ 50) : ∃ l : List UInt8, Lib.itoa n = l ∧ decV l = n ∧ (∀ (k : Nat) (c : UInt8), l[k]? = some c → 48 ≤ c.toNat ∧ c.toNat ≤ 57) ∧ (∀ k, k < l.length → 0 ≤ decV (l.take k) ∧ decV (l.take k) ≤ 50) ∧
    (l.length = 1 ∨ (l.length = 2 ∧ ∃ (c : UInt8) (r : List UInt8), l = c :: r ∧ c.toNat ≠ 48)) := by
  by_cases q : n < 10
  · refine ⟨_, itoa_one h0 q, ?_, fun k c h => ?_, fun k h => ?_, .inl rfl⟩
    · unfold decV
      simp only [List.foldl_cons, List.foldl_nil]
      rw [dgt_facts _ (by omega)]; omega
    · rcases k with _ | k
      · simp at h
        subst h
        rw [dgt_facts _ (by omega)]; omega
      · simp at h
    · simp at h
      subst h
      simp [decV]
  · have d1 := dgt_facts (n.toNat / 10) (by omega)
    have d2 := dgt_facts (n.toNat % 10) (by omega)
    refine ⟨_, itoa_two (by omega) (by omega), ?_, fun k c h => ?_, fun k h => ?_, .inr ⟨rfl, _, _, rfl, by omega⟩⟩
    · unfold decV
      simp only [List.foldl_cons, List.foldl_nil]
      omega
    · rcases k with _ | _ | k
      · simp at h
        subst h
        omega
      · simp at h
        subst h
        omega
      · simp at h
    · rcases k with _ | _ | k
      · simp [decV]
      · simp only [decV, List.take_succ_cons, List.take_zero, List.foldl_cons, List.foldl_nil]
        omega
      · simp at h; omega

set_option maxHeartbeats 4000000 in
theorem count_any (rb i o : Nat) (s : ByteArray) (n : Int) (c : UInt8) (t : List UInt8) (w : World) (h : RS w rb s i o (Lib.itoa n ++ (c :: t))) (h0 : 0 ≤ n) (h1 : n ≤ 50) (hc : c.toNat < 48 ∨ 57 < c.toNat) :
    Calls Tryz.prog 101 #[rdp rb] w fun e w' => e = .returned (.int .i64 n) ∧ RS w' rb s (i + (Lib.itoa n).length) o (c :: t) ∧ Kp (· = rb) w w' := by
  obtain ⟨l, hl, hv, hd, ht, hs⟩ := small_digits h0 h1
  rw [hl] at h ⊢
  obtain ⟨L, hL⟩ : ∃ L, L = l.length := ⟨_, rfl⟩
  have hL2 : L = 1 ∨ L = 2 := by rcases hs with q | ⟨q, _⟩ <;> omega
  rw [← hL]
  have hsz := h.len
  have z1 := h.b.cell (i := 1) rfl
  have hstart : Hid (RS w rb s (i + 0) o (l.drop 0 ++ (c :: t))) := Lib.hid (by rw [List.drop_zero]; exact h)
  have hi : i < s.size := by
    cases l with
    | nil => simp at hL; omega
    | cons a r => exact h.cons.1
  have hfst : Hid (L = 2 → byt s i ≠ 48) := Lib.hid (fun q => by
    rcases hs with q2 | ⟨_, a, r, e, q2⟩
    · omega
    · rw [e] at h
      have := h.cons.2.1
      omega)
  have HL := Lib.hid hL; have HV := Lib.hid hv; have HD := Lib.hid hd; have HT := Lib.hid ht
  clear h hs hL hv hd ht hl
  go_enter Tryz.func101, Tryz.ntmps101
  go_wp2_with fail
  go_loopw [4, 5] (fun v u wr => ∃ k : Nat, k ≤ L ∧ v = .int .i64 (decV (l.take k)) ∧ Hid (RS wr rb s (i + k) o (l.drop k ++ (c :: t))) ∧ Hid (Kp (· = rb) w wr) ∧ wr.cell? ⟨rb, 1, none⟩ = some (.int .i64 ((i + k : Nat) : Int))) (fun _ _ wr => match wr.cell? ⟨rb, 1, none⟩ with | some v => L + i - (intOf v).toNat | none => 0)
  case atStart => exact ⟨0, Nat.zero_le _, rfl, hstart.out, Kp.refl _ _, by simpa using z1⟩
  case round =>
    as_aux_lemma =>
      clear hstart z1
      obtain ⟨k, hk, rfl, HR, HK, zm⟩ := hrel
      have HN := Lib.hid (now_any rb (i + k) o s _ wr HR.out)
      by_cases hlt : k < L
      · as_aux_lemma =>
          obtain ⟨a, ha⟩ : ∃ a, l[k]? = some a := ⟨_, List.getElem?_eq_getElem (by rw [← HL.out]; exact hlt)⟩
          have hrs := HR.out
          have hdr : l.drop k = a :: l.drop (k + 1) := by
            have hk2 := (List.getElem?_eq_some_iff.1 ha).1
            rw [List.drop_eq_getElem_cons hk2, (List.getElem?_eq_some_iff.1 ha).2]
          rw [hdr, List.cons_append] at hrs
          rw [hdr, List.cons_append] at HN
          obtain ⟨y, hy⟩ : ∃ y : Int, y = a.toNat := ⟨_, rfl⟩
          have hd := HD.out k a ha
          have hv1 := HT.out k (by rw [← HL.out]; exact hlt)
          have hv2 := decV_take ha
          rw [← hy] at hv2
          have hn : hdI (a :: (l.drop (k + 1) ++ (c :: t))) = y := hy.symm
          rw [hn] at HN
          have hy1 : 48 ≤ y ∧ y ≤ 57 := by omega
          obtain ⟨y1, y2⟩ := hy1
          have e1 : decide (y < 48) = false := decide_eq_false (by omega)
          have e2 : decide (57 < y) = false := decide_eq_false (by omega)
          obtain ⟨x, hx⟩ : ∃ x, x = decV (l.take k) := ⟨_, rfl⟩
          rw [← hx] at hv1 hv2 ⊢
          obtain ⟨v1, v2⟩ := hv1
          have HV2 := Lib.hid hv2; have HRS := Lib.hid hrs; have HX := Lib.hid hx
          obtain ⟨j, hj⟩ : ∃ j, j = i + k := ⟨_, rfl⟩
          have HJ := Lib.hid hj
          rw [← hj] at zm HRS
          have hj60 : j ≤ 65536 := by have := hrs.le; omega
          have z1 := HRS.out.b.cell (i := 1) rfl
          obtain ⟨wo, rfl⟩ : ∃ wo : World, wo = wr := ⟨_, rfl⟩
          clear hd hv2 hrs hx hn hdr ha hj zm HR hy
          go_wp2_with fail
          refine HN.out.mono ?_
          clear HN
          rintro e w2 ⟨rfl, hb2⟩
          have hr2 := HRS.out.below hb2
          have z1 := hr2.b.cell (i := 1) rfl
          have f1 := hr2.b.frozen 1
          have HR3 := Lib.hid hr2.step
          have HK3 := Lib.hid ((HK.out.trans (Kp.of hb2)).set_ (p := ⟨rb, 1, none⟩) (.inr rfl) (.int .i64 ((j : Int) + 1)))
          clear hb2 hr2
          go_wp2_with fail
          go_roundw
          case rel => exact ⟨k + 1, by omega, by rw [HV2.out], Lib.hid (by rw [show i + (k + 1) = j + 1 by have := HJ.out; omega]; exact HR3.out), HK3, by rw [show i + (k + 1) = j + 1 by have := HJ.out; omega]; exact HR3.out.b.cell (i := 1) rfl⟩
          case measure =>
            have e3 := HR3.out.b.cell (i := 1) rfl
            have e4 := HRS.out.b.cell (i := 1) rfl
            simp only [e3, e4, intOf]
            have := HJ.out
            omega
      · as_aux_lemma =>
          obtain rfl : k = L := by omega
          have hrs := HR.out
          rw [List.drop_of_length_le (by rw [← HL.out]; exact Nat.le_refl _), List.nil_append] at hrs HN
          have hts : l.take k = l := List.take_of_length_le (by rw [← HL.out]; exact Nat.le_refl _)
          rw [hts, HV.out]
          obtain ⟨y, hy⟩ : ∃ y : Int, y = c.toNat := ⟨_, rfl⟩
          have hn : hdI (c :: t) = y := hy.symm
          rw [hn] at HN
          have hyf : y < 48 ∨ 57 < y := by omega
          have HRS := Lib.hid hrs
          have z0 := hrs.b.cell (i := 0) rfl
          have hb := byt_get s i hi
          have hbl := byt_lo s i; have hbh := byt_hi s i
          have hj60 : i + k ≤ 65536 := by have := hrs.le; omega
          obtain ⟨wo, rfl⟩ : ∃ wo : World, wo = wr := ⟨_, rfl⟩
          have HFB := Lib.hid hfst.out
          have hgo : ∀ w2, Below wo.heap.size wo w2 → w2.cell? ⟨rb, 0, none⟩ = some (.string s) ∧ w2.cell? ⟨rb, 1, none⟩ = some (.int .i64 ((i + k : Nat) : Int)) ∧ Hid (RS w2 rb s (i + k) o (c :: t) ∧ Kp (· = rb) w w2) := fun w2 hb2 =>
            ⟨(hrs.below hb2).b.cell (i := 0) rfl, (hrs.below hb2).b.cell (i := 1) rfl, ⟨hrs.below hb2, HK.out.trans (Kp.of hb2)⟩⟩
          have HGO := Lib.hid hgo
          have hnn : decide (50 < n) = false := decide_eq_false (by omega)
          clear hrs hn hts HR zm z0 hgo hy
          rcases hyf with hy1 | hy1
          · have e1 : decide (y < 48) = true := decide_eq_true (by omega)
            rcases hL2 with rfl | rfl
            · have c1 : (((i + 1 : Nat) : Int) == (i : Int)) = false := by rw [beq_eq_false_iff_ne]; omega
              go_wp2_with fail
              refine HN.out.mono ?_
              clear HN
              rintro e w2 ⟨rfl, hb2⟩
              obtain ⟨z0, z1, HQ⟩ := HGO.out w2 hb2
              clear hb2
              go_wp2_with fail
              go_ret
              exact ⟨rfl, HQ.out.1, HQ.out.2⟩
            · have c1 : (((i + 2 : Nat) : Int) == (i : Int)) = false := by rw [beq_eq_false_iff_ne]; omega
              have c2 : (byt s i == 48) = false := by rw [beq_eq_false_iff_ne]; exact HFB.out rfl
              go_wp2_with fail
              refine HN.out.mono ?_
              clear HN
              rintro e w2 ⟨rfl, hb2⟩
              obtain ⟨z0, z1, HQ⟩ := HGO.out w2 hb2
              clear hb2
              go_wp2_with fail
              go_ret
              exact ⟨rfl, HQ.out.1, HQ.out.2⟩
          · have e1 : decide (y < 48) = false := decide_eq_false (by omega)
            have e2 : decide (57 < y) = true := decide_eq_true (by omega)
            rcases hL2 with rfl | rfl
            · have c1 : (((i + 1 : Nat) : Int) == (i : Int)) = false := by rw [beq_eq_false_iff_ne]; omega
              go_wp2_with fail
              refine HN.out.mono ?_
              clear HN
              rintro e w2 ⟨rfl, hb2⟩
              obtain ⟨z0, z1, HQ⟩ := HGO.out w2 hb2
              clear hb2
              go_wp2_with fail
              go_ret
              exact ⟨rfl, HQ.out.1, HQ.out.2⟩
            · have c1 : (((i + 2 : Nat) : Int) == (i : Int)) = false := by rw [beq_eq_false_iff_ne]; omega
              have c2 : (byt s i == 48) = false := by rw [beq_eq_false_iff_ne]; exact HFB.out rfl
              go_wp2_with fail
              refine HN.out.mono ?_
              clear HN
              rintro e w2 ⟨rfl, hb2⟩
              obtain ⟨z0, z1, HQ⟩ := HGO.out w2 hb2
              clear hb2
              go_wp2_with fail
              go_ret
              exact ⟨rfl, HQ.out.1, HQ.out.2⟩
end Go.Proofs.YtaachamblagbhaaGreatDoor
namespace Go.Proofs.YtaachamblagbhaaGreatDoor
open Go.RowKit BigFrame
set_option linter.unusedVariables false
set_option linter.unusedSimpArgs false
set_option maxRecDepth 100000

set_option maxHeartbeats 4000000 in
theorem within_no (s : ByteArray) (c : Int) (w : World) (hs : s.size ≤ 100) (h : ∀ k, k < s.size → byt s k ≠ c) :
    Calls Tryz.prog 107 #[.string s, .int .i64 c] w fun e w' => e = .returned (.bool false) ∧ w' = w := by
  have H := Lib.hid h
  clear h
  go_enter Tryz.func107, Tryz.ntmps107
  go_wp2_with fail
  go_loop [5] (fun i => ∃ k : Nat, k ≤ s.size ∧ i = .int .i64 (k : Int)) (fun i => s.size - (intOf i).toNat)
  case atStart => exact ⟨0, Nat.zero_le _, rfl⟩
  case round =>
    obtain ⟨k, hk, rfl⟩ := hrel
    by_cases hlt : k < s.size
    · as_aux_lemma =>
        have hb := byt_get s k hlt
        have hl := byt_lo s k; have hh := byt_hi s k
        have e1 : (byt s k == c) = false := by rw [beq_eq_false_iff_ne]; exact H.out k hlt
        go_wp2_with fail
        go_round
        case rel => exact ⟨k + 1, by omega, by go_num⟩
        case measure => simp [intOf]; omega
    · as_aux_lemma =>
        go_wp2_with fail
        go_ret
        exact ⟨rfl, rfl⟩

set_option maxHeartbeats 4000000 in
theorem hex_any (c : UInt8) (w : World) :
    Calls Tryz.prog 109 #[.int .u8 (c.toNat : Int)] w fun e w' => e = .returned (.int .i64 (hexV c)) ∧ w' = w := by
  obtain ⟨y, hy⟩ : ∃ y : Int, y = c.toNat := ⟨_, rfl⟩
  have h0 : 0 ≤ y := by omega
  have h1 : y ≤ 255 := by have := c.toNat_lt; omega
  have hv : hexV c = if 48 ≤ y ∧ y ≤ 57 then y - 48 else if 97 ≤ y ∧ y ≤ 102 then y - 97 + 10 else if 65 ≤ y ∧ y ≤ 70 then y - 65 + 10 else -1 := by
    unfold hexV
    rw [hy]
    repeat' split
    all_goals omega
  rw [hv, ← hy]
  have HV := Lib.hid hv
  clear hy hv
  by_cases a1 : 48 ≤ y
  · by_cases a2 : y ≤ 57
    · rw [if_pos ⟨a1, a2⟩]
      go_enter Tryz.func109, Tryz.ntmps109
      go_wp2_with fail
      go_ret
      exact ⟨rfl, rfl⟩
    · rw [if_neg (fun q => a2 q.2)]
      by_cases b1 : 97 ≤ y
      · by_cases b2 : y ≤ 102
        · rw [if_pos ⟨b1, b2⟩]
          go_enter Tryz.func109, Tryz.ntmps109
          go_wp2_with fail
          go_ret
          exact ⟨rfl, rfl⟩
        · rw [if_neg (fun q => b2 q.2), if_neg (by omega)]
          have c1 : ¬ y ≤ 70 := by omega
          have c2 : 65 ≤ y := by omega
          go_enter Tryz.func109, Tryz.ntmps109
          go_wp2_with fail
          go_ret
          exact ⟨rfl, rfl⟩
      · rw [if_neg (fun q => b1 q.1)]
        by_cases c1 : 65 ≤ y
        · by_cases c2 : y ≤ 70
          · rw [if_pos ⟨c1, c2⟩]
            go_enter Tryz.func109, Tryz.ntmps109
            go_wp2_with fail
            go_ret
            exact ⟨rfl, rfl⟩
          · rw [if_neg (fun q => c2 q.2)]
            go_enter Tryz.func109, Tryz.ntmps109
            go_wp2_with fail
            go_ret
            exact ⟨rfl, rfl⟩
        · rw [if_neg (fun q => c1 q.1)]
          go_enter Tryz.func109, Tryz.ntmps109
          go_wp2_with fail
          go_ret
          exact ⟨rfl, rfl⟩
  · rw [if_neg (fun q => a1 q.1), if_neg (by omega), if_neg (by omega)]
    have b1 : ¬ 97 ≤ y := by omega
    have c1 : ¬ 65 ≤ y := by omega
    go_enter Tryz.func109, Tryz.ntmps109
    go_wp2_with fail
    go_ret
    exact ⟨rfl, rfl⟩

/-- What stands at a place of a text. -/
theorem at_cons {s : ByteArray} {i : Nat} {c : UInt8} {t : List UInt8} (hle : i ≤ s.size) (h : s.data.toList.drop i = c :: t) : i < s.size ∧ byt s i = (c.toNat : Int) ∧ s.data.toList.drop (i + 1) = t := by
  have hi : i < s.data.toList.length := by
    have := congrArg List.length h
    simp at this
    simp
    omega
  have hsz : s.size = s.data.size := rfl
  have e : s.data.toList[i] = c := by
    have := congrArg (·[0]?) h
    simp at this
    rw [List.getElem_eq_iff]
    simpa using this
  have hi2 : i < s.size := by simp at hi; omega
  refine ⟨hi2, ?_, ?_⟩
  · unfold byt
    rw [dif_pos hi2]
    have : s[i] = s.data.toList[i] := by rw [Array.getElem_toList]; rfl
    rw [this, e]
  · have := congrArg List.tail h
    rw [List.tail_drop] at this
    simpa using this
theorem at_app {s : ByteArray} : ∀ {a : List UInt8} {i : Nat} {r : List UInt8}, i ≤ s.size → s.data.toList.drop i = a ++ r → i + a.length ≤ s.size ∧ s.data.toList.drop (i + a.length) = r
  | [], i, r, hle, h => ⟨hle, h⟩
  | c :: a, i, r, hle, h => by
    obtain ⟨h1, _, h3⟩ := at_cons hle h
    obtain ⟨g1, g2⟩ := at_app (a := a) (i := i + 1) (r := r) h1 h3
    rw [List.length_cons, show i + (a.length + 1) = i + 1 + a.length by omega]
    exact ⟨g1, g2⟩
theorem at_get {s : ByteArray} {l r : List UInt8} {i k : Nat} {c : UInt8} (hle : i ≤ s.size) (h : s.data.toList.drop i = l ++ r) (hc : l[k]? = some c) : i + k < s.size ∧ byt s (i + k) = (c.toNat : Int) := by
  have hk := (List.getElem?_eq_some_iff.1 hc).1
  have e : l = l.take k ++ (c :: l.drop (k + 1)) := by
    rw [← (List.getElem?_eq_some_iff.1 hc).2, ← List.drop_eq_getElem_cons hk, List.take_append_drop]
  rw [e, List.append_assoc] at h
  obtain ⟨g1, g2⟩ := at_app hle h
  rw [List.length_take, Nat.min_eq_left (by omega)] at g1 g2
  obtain ⟨a, b, _⟩ := at_cons g1 g2
  exact ⟨a, b⟩
theorem foldl_nonneg : ∀ (l : List UInt8) (a : Int), 0 ≤ a → (∀ c ∈ l, 0 ≤ hexV c) → a ≤ l.foldl hexF a
  | [], a, _, _ => Int.le_refl _
  | c :: l, a, ha, h => by
    have h0 := h c (by simp)
    have := foldl_nonneg l (hexF a c) (by unfold hexF; omega) fun x hx => h x (List.mem_cons_of_mem _ hx)
    rw [List.foldl_cons]
    unfold hexF at this ⊢
    omega

set_option maxHeartbeats 4000000 in
theorem digits_any (rb i o u : Nat) (s : ByteArray) (t : List UInt8) (from_ : Int) (w : World) (h : RS w rb s i o (123 :: (hexD u ++ 125 :: t))) (hu : u ≤ 1114111) :
    Calls Tryz.prog 108 #[rdp rb, .int .i64 from_] w fun e w' => e = .returned (.int .i64 (u : Int)) ∧ RS w' rb s (i + 1 + (hexD u).length + 1) o t ∧ Kp (· = rb) w w' := by
  obtain ⟨l, hl⟩ : ∃ l, l = hexD u := ⟨_, rfl⟩
  have hlen := hexD_len 5 u (by omega)
  have hval := hexD_val 5 u (by omega)
  have hdig := hexD_all 5 u (by omega)
  rw [← hl] at h hlen hval hdig ⊢
  obtain ⟨L, hL⟩ : ∃ L, L = l.length := ⟨_, rfl⟩
  rw [← hL] at hlen ⊢
  obtain ⟨hl1, hl6⟩ := hlen
  have hdv : ∀ c ∈ l, 0 ≤ hexV c := fun c hc => by
    obtain ⟨d, hd, rfl⟩ := hdig c hc
    exact (hxd_facts d hd).2.2.2
  have hpre : ∀ k, k ≤ L → 0 ≤ (l.take k).foldl hexF 0 ∧ (l.take k).foldl hexF 0 ≤ 1114111 := fun k hk => by
    have e : (l.take k ++ l.drop k).foldl hexF 0 = (u : Int) := by rw [List.take_append_drop]; exact hval
    rw [List.foldl_append] at e
    have h1 := foldl_nonneg (l.take k) 0 (Int.le_refl _) fun c hc => hdv c (List.mem_of_mem_take hc)
    have h2 := foldl_nonneg (l.drop k) _ h1 fun c hc => hdv c (List.mem_of_mem_drop hc)
    omega
  -- the bytes
  obtain ⟨p1, p2, p3, p4⟩ := h.cons
  have hbyt : ∀ k c, l[k]? = some c → i + 1 + k < s.size ∧ byt s (i + 1 + k) = (c.toNat : Int) := fun k c hc => at_get p1 p4 hc
  have hend : i + 1 + L < s.size ∧ byt s (i + 1 + L) = 125 ∧ s.data.toList.drop (i + 1 + L + 1) = t := by
    obtain ⟨g1, g2⟩ := at_app p1 p4
    rw [← hL] at g1 g2
    exact at_cons g1 g2
  obtain ⟨e1, e2, e3⟩ := hend
  have z0 := h.b.cell (i := 0) rfl
  have z1 := h.b.cell (i := 1) rfl
  have f1 := h.b.frozen 1
  have hsz := h.len
  have HFIN : Hid (∀ q, RS ((w.drewN q).setCell ⟨rb, 1, none⟩ (.int .i64 ((i : Int) + 1 + L + 1))) rb s (i + 1 + L + 1) o t ∧ Kp (· = rb) w ((w.drewN q).setCell ⟨rb, 1, none⟩ (.int .i64 ((i : Int) + 1 + L + 1)))) :=
    Lib.hid (fun q => ⟨⟨h.asc, h.len, (h.b.drewN q).set_ 1 (.int .i64 ((i + 1 + L + 1 : Nat) : Int)), e3, e1⟩, ((Kp.refl (· = rb) w).draws q).set_ (p := ⟨rb, 1, none⟩) (.inr rfl) _⟩)
  have HR := Lib.hid h
  have HB := Lib.hid hbyt; have HP := Lib.hid hpre; have HV := Lib.hid hval; have HLL := Lib.hid hL
  have HDV : Hid (∀ k c, l[k]? = some c → 0 ≤ hexV c ∧ (l.take (k + 1)).foldl hexF 0 = (l.take k).foldl hexF 0 * 16 + hexV c) := Lib.hid (fun k c hc => ⟨hdv c (List.mem_of_getElem? hc), by
    rw [List.take_add_one, hc, List.foldl_append]; rfl⟩)
  have hb0 := byt_get s i (by omega)
  rw [p2] at hb0
  have d0 : decide (s.size ≤ i) = false := decide_eq_false (by omega)
  clear h p4 hbyt hpre hval hdig hdv e3 hL hl p2
  go_enter Tryz.func108, Tryz.ntmps108
  go_wp2_with fail
  go_quiet (fail)
  obtain ⟨w1, hw1⟩ : ∃ w1, w1 = w.drewN nq := ⟨_, rfl⟩
  have hb1 : Below w.heap.size w w1 := by rw [hw1]; exact dn_below _ _
  have hr1 := HR.out.below hb1
  have z0 := hr1.b.cell (i := 0) rfl
  have z1 := hr1.b.cell (i := 1) rfl
  have f1 := hr1.b.frozen 1
  have hf1 := HFIN.out nq
  rw [← hw1] at hf1 ⊢
  have HF1 := Lib.hid hf1
  have hns : ¬ s.size ≤ i := by omega
  clear hw1 hb1 hr1 hf1 HFIN hb0
  go_wp2_with fail
  go_loop [5, 6, 7, 8] (fun n k j d => ∃ q : Nat, q ≤ L ∧ n = .int .i64 ((l.take q).foldl hexF 0) ∧ k = .int .i64 (q : Int) ∧ j = .int .i64 ((i + 1 + q : Nat) : Int)) (fun _ k _ _ => L + 1 - (intOf k).toNat)
  case atStart => exact ⟨0, Nat.zero_le _, rfl, rfl, rfl⟩
  case round =>
    obtain ⟨q, hq, rfl, rfl, rfl⟩ := hrel
    obtain ⟨hx0, hx1⟩ := HP.out q hq
    obtain ⟨x, hx⟩ : ∃ x, x = (l.take q).foldl hexF 0 := ⟨_, rfl⟩
    by_cases hlt : q < L
    · as_aux_lemma =>
        obtain ⟨c, hc⟩ : ∃ c, l[q]? = some c := ⟨_, List.getElem?_eq_getElem (by rw [← HLL.out]; exact hlt)⟩
        obtain ⟨b1, b2⟩ := HB.out q c hc
        obtain ⟨v1, v2⟩ := HDV.out q c hc
        have hb0 := byt_get s (i + 1 + q) b1
        rw [b2] at hb0
        have HX := Lib.hid (hex_any c w1)
        rw [← hx] at hx0 hx1 v2 ⊢
        obtain ⟨dd, hdd⟩ : ∃ dd, dd = hexV c := ⟨_, rfl⟩
        rw [← hdd] at v1 v2 HX
        have V2 := Lib.hid v2
        have hd16 : dd ≤ 15 := by
          rw [hdd]; unfold hexV
          repeat' split
          all_goals omega
        have hq6 : q ≤ 6 := by omega
        clear b2 hc hx hdd v2
        go_wp2_with fail
        refine HX.out.mono ?_
        rintro e w' ⟨rfl, rfl⟩
        go_wp2_with fail
        go_round
        case rel => exact ⟨q + 1, by omega, by rw [V2.out], by go_num, by go_num⟩
        case measure => simp [intOf]; omega
    · as_aux_lemma =>
        obtain rfl : q = L := by omega
        have htk : l.take q = l := List.take_of_length_le (by rw [← HLL.out]; exact Nat.le_refl _)
        rw [htk, HV.out] at hx hx0 hx1
        rw [htk, HV.out]
        have hb0 := byt_get s (i + 1 + q) e1
        rw [e2] at hb0
        have HX : Hid (Calls Tryz.prog 109 #[.int .u8 125] w1 fun e w' => e = .returned (.int .i64 (-1)) ∧ w' = w1) := Lib.hid (hex_any 125 w1)
        have hq6 : q ≤ 6 := by omega
        have hq1 : ¬ q < 1 := by omega
        have hn1 : ¬ s.size ≤ i + 1 + q := by omega
        clear htk hx e2
        go_wp2_with fail
        refine HX.out.mono ?_
        rintro e w' ⟨rfl, rfl⟩
        go_wp2_with fail
        go_ret
        exact ⟨rfl, HF1.out.1, HF1.out.2⟩
end Go.Proofs.YtaachamblagbhaaGreatDoor
