/- slices.Grow of nil, slices.Concat of ranges; points.Join. -/
import Derived.Test.YtihfdmjejllhnaaRgH
import Derived.Deep.Cut
import Derived.Lib.AppendZeros
namespace Go.Proofs.Ytihfdmjejllhnaa
open Go.RowKit BigFrame
set_option linter.unusedVariables false
set_option linter.unusedSimpArgs false
set_option maxRecDepth 100000

theorem grow_nil (n : Nat) (w : World) (hn : n ≤ 100000) :
    Calls Try.prog 59 #[.slice none 0 0, .int .i64 (n : Int)] w fun e w' => ∃ v, e = .returned v ∧ w'.ownsRow w.heap.size 59 2 v 0 [] ∧ Below w.heap.size w w' := by
  rcases Nat.eq_zero_or_pos n with rfl | h0
  · go_enter Try.func59, Try.ntmps59
    go_wp2_with fail
    go_ret
    exact ⟨_, rfl, World.ownsRow_nil _ _ _ _, Below.refl _ _⟩
  · obtain ⟨i, hi, hz, hsz, hby⟩ := info_parts elRg.hi
    have hlt : (0 : Int) < (n : Int) := by omega
    have hrun := fun w : World => Lib.run_append_nil_zeros (P := Try.prog) w 35 3 35 59 i (.agg #[.int .i64 0, .int .i64 0]) .i64 .i64 elRg.ht (by rfl) hi hz n h0 (by omega) (by omega) (by rw [hby]; omega)
    have HR := Lib.hid hrun
    clear hi hz hsz hby hrun
    go_enter Try.func59, Try.ntmps59
    go_upto_region 5 with (fail)
    go_wp2_with (at_builtin; refine Lib.wpList_append_run _ rfl (.tmp 20) (.tmp 21) 35 3 rfl _ _ rfl rfl _ _ (HR.out _) ?_)
    go_ret
    refine ⟨_, rfl, ⟨rfl, .inr ⟨w.heap.size, _, _, rfl, Nat.le_refl _, heap_alloc_new w.drew _, Nat.zero_le _, ?_, ?_, by simp⟩⟩, ?_⟩
    · exact grownCap_le_maxLen _ _ _ _ (by unfold maxLen; omega)
    · rw [Array.size_append, size_zeroCells, size_zeroCells]
      have := grownCap_ge w n 0 59
      show n * 2 + (grownCap w n 0 59 - n) * 2 = _
      omega
    · have hb : Below w.heap.size w w.drew := ⟨rfl, rfl, rfl, Nat.le_refl _, fun _ _ => rfl⟩
      exact hb.alloc (Nat.le_refl _) _

/-- The first k lists, one behind the other. -/
def catL (L : Nat → List Rg) : Nat → List Rg
  | 0 => []
  | k + 1 => catL L k ++ L k
def lenL (L : Nat → List Rg) : Nat → Nat
  | 0 => 0
  | k + 1 => lenL L k + (L k).length
theorem catL_len (L : Nat → List Rg) : ∀ k, (catL L k).length = lenL L k
  | 0 => rfl
  | k + 1 => by rw [catL, List.length_append, catL_len L k, lenL]
theorem lenL_le (L : Nat → List Rg) {m : Nat} : ∀ {k : Nat}, k ≤ m → lenL L k ≤ lenL L m := fun {k} h => by
  induction m with
  | zero => obtain rfl : k = 0 := by omega
            exact Nat.le_refl _
  | succ m ih =>
    by_cases e : k = m + 1
    · rw [e]; exact Nat.le_refl _
    · have := ih (by omega); rw [lenL]; omega

set_option maxHeartbeats 1000000 in
theorem concat_any (g m cap : Nat) (L : Nat → List Rg) (A : Nat → Option Addr) (C : Nat → Nat) (w : World) (B : Nat) (hB : B ≤ w.heap.size) (hg : g < w.heap.size) (hm : m ≤ 1000) (hL : lenL L m ≤ 100000)
    (hc : ∀ k, k < m → w.cell? ⟨g, k, none⟩ = some (.slice (A k) (L k).length (C k))) (hr : ∀ k, k < m → RdG w B (A k) (L k)) :
    Calls Try.prog 46 #[.slice (some ⟨g, 0, none⟩) m cap] w fun e w' => ∃ v, e = .returned v ∧ w'.ownsRow w.heap.size 59 2 v (catL L m).length (rv (catL L m)) ∧ Below w.heap.size w w' := by
  have HC := Lib.hid hc; have HR := Lib.hid hr; have HL := Lib.hid hL
  clear hc hr hL
  go_enter Try.func46, Try.ntmps46
  go_wp2_with fail
  go_loop [3, 11] (fun v i => ∃ k : Nat, k ≤ m ∧ i = .int .i64 k ∧ v = .int .i64 (lenL L k : Nat)) (fun _ i => m - (intOf i).toNat)
  case atStart => exact ⟨0, Nat.zero_le _, rfl, rfl⟩
  case round =>
    as_aux_lemma =>
      obtain ⟨k, hk, rfl, rfl⟩ := hrel
      have hle : lenL L k ≤ 100000 := Nat.le_trans (lenL_le L hk) HL.out
      by_cases hlt : k < m
      · as_aux_lemma =>
          have z1 := HC.out k hlt
          have hsu : lenL L (k + 1) = lenL L k + (L k).length := rfl
          have hle2 : lenL L (k + 1) ≤ 100000 := Nat.le_trans (lenL_le L hlt) HL.out
          rw [hsu] at hle2
          have HSU := Lib.hid hsu
          clear hsu
          generalize (L k).length = n at *
          go_wp2_with fail
          go_round
          case rel => exact ⟨k + 1, by omega, by go_num, by rw [HSU.out]; go_num⟩
          case measure => simp [intOf]; omega
      · as_aux_lemma =>
          have hkm : k = m := by omega
          have hgr := grow_nil (lenL L m) w HL.out
          rw [← hkm] at hgr
          have HG := Lib.hid hgr; have HKM := Lib.hid hkm
          clear hgr hkm
          go_wp2_with fail
          refine HG.out.mono ?_
          rintro e w1 ⟨v, rfl, hown, hb⟩
          have HO := Lib.hid hown; have HB := Lib.hid hb
          clear hown hb
          go_wp2_with fail
          go_loopw [6, 27] (fun v i wr => ∃ k : Nat, k ≤ m ∧ i = .int .i64 k ∧ Hid (wr.ownsRow w.heap.size 59 2 v (catL L k).length (rv (catL L k))) ∧ Hid (Below w.heap.size w wr)) (fun _ i _ => m - (intOf i).toNat)
          case atStart => exact ⟨0, Nat.zero_le _, rfl, HO.out, HB.out⟩
          case round =>
            as_aux_lemma =>
              clear HO HB
              obtain ⟨k2, hk2, rfl, HO, HB⟩ := hrel
              have hsz := HB.out.size
              by_cases hlt2 : k2 < m
              · as_aux_lemma =>
                  have hz := (HB.out.cell (p := ⟨g, k2, none⟩) hg).trans (HC.out k2 hlt2)
                  have hrd : Rd wr B (A k2) (rv (L k2)) := (HR.out k2 hlt2).below (HB.out.mono hB)
                  have hle : (catL L k2).length + (L k2).length ≤ 100000 := by
                    have h1 := lenL_le L (k := k2 + 1) (m := m) (by omega)
                    have h2 := HL.out
                    rw [lenL] at h1
                    rw [catL_len]
                    omega
                  have HRD := Lib.hid hrd; have H1 := Lib.hid (rv_one (L k2)); have HLE := Lib.hid hle
                  have HN := Lib.hid (show (rv (L k2)).length = (L k2).length * 2 by rw [rv_len])
                  have HCAT : Hid (catL L (k2 + 1) = catL L k2 ++ L k2) := Lib.hid rfl
                  clear hrd hle
                  generalize catL L k2 = xs at *
                  generalize L k2 = ys at *
                  go_wp2_with (at_builtin; refine wpList_app_rd elRg rfl (.tmp 31) (.tmp 32) rfl w.heap.size _ xs.length ys.length (C k2) B (A k2) (rv xs) (rv ys) rfl HO.out rfl HN.out HRD.out H1.out (by have := HLE.out; omega) (by have := HLE.out; omega) hsz ?_; intro v1 w1 hown1 hg1 hat1)
                  have hown2 : w1.ownsRow w.heap.size 59 2 v1 (xs ++ ys).length (rv (xs ++ ys)) := by
                    rw [List.length_append]
                    have : rv (xs ++ ys) = rv xs ++ rv ys := rv_append _ _
                    rw [this]; exact hown1
                  have hb1 : Below w.heap.size w w1 := HB.out.grown hg1 hsz (fun k hk => own_base HO.out k hk)
                  have HO1 := Lib.hid hown2; have HB1 := Lib.hid hb1
                  clear hown1 hown2 hb1 hg1 hat1
                  go_wp2_with fail
                  go_roundw
                  case rel => exact ⟨k2 + 1, by omega, by go_num, by show World.ownsRow _ _ _ _ _ _ _; rw [HCAT.out]; exact HO1.out, HB1.out⟩
                  case measure => simp [intOf]; omega
              · as_aux_lemma =>
                  have e : k2 = m := by omega
                  have HE := Lib.hid e
                  clear e
                  go_wp2_with fail
                  go_ret
                  exact ⟨_, rfl, by rw [← HE.out]; exact HO.out, HB.out⟩

theorem inR_append {l m : List Rg} {p : Int} : inR (l ++ m) p = (inR l p || inR m p) := by
  unfold inR
  rw [memR_append]
  cases isPt p <;> simp
set_option maxHeartbeats 1000000 in
theorem join_any (A A2 : Option Addr) (n c n2 c2 : Nat) (l l2 : List Rg) (w : World) (B : Nat) (hB : B ≤ w.heap.size) (hr : RdG w B A l) (hl : l.length = n) (hn : n ≤ 200) (hr2 : RdG w B A2 l2) (hl2 : l2.length = n2) (hn2 : n2 ≤ 200) :
    Calls Try.prog 23 #[.slice A n c, .slice A2 n2 c2] w fun e w' => ∃ v out, e = .returned v ∧ OwG w' w.heap.size v out ∧ IsCan out (fun p => inR l p || inR l2 p) ∧ Below w.heap.size w w' ∧ out.length ≤ n + n2 := by
  obtain ⟨w0, hw0⟩ : ∃ w0, w0 = w.alloc (.cells #[.slice A n c, .slice A2 n2 c2] 35) := ⟨_, rfl⟩
  have hb0 : Below w.heap.size w w0 := by rw [hw0]; exact (Below.refl _ w).alloc (Nat.le_refl _) _
  have hs0 : w0.heap.size = w.heap.size + 1 := by rw [hw0]; simp
  have hc0 : ∀ k, w0.cell? ⟨w.heap.size, k, none⟩ = #[Value.slice A n c, .slice A2 n2 c2][k]? := fun k => by
    rw [hw0, cell_of_row _ w.heap.size k #[.slice A n c, .slice A2 n2 c2] 35 (0, 0) (heap_alloc_new w _)]
  have hcat := concat_any w.heap.size 2 2 (fun k => if k = 0 then l else l2) (fun k => if k = 0 then A else A2) (fun k => if k = 0 then c else c2) w0 B (by omega) (by omega) (by omega) (by simp [lenL]; omega)
    (fun k hk => by
      rw [hc0]
      rcases (by omega : k = 0 ∨ k = 1) with rfl | rfl
      · simp [hl]
      · simp [hl2])
    (fun k hk => by
      rcases (by omega : k = 0 ∨ k = 1) with rfl | rfl
      · exact hr.below (hb0.mono hB)
      · exact hr2.below (hb0.mono hB))
  have hcl : catL (fun k => if k = 0 then l else l2) 2 = l ++ l2 := by simp [catL]
  rw [hcl] at hcat
  have hlen : (l ++ l2).length = n + n2 := by rw [List.length_append, hl, hl2]
  rw [hw0] at hcat
  have HCAT := Lib.hid hcat; have HB0 := Lib.hid hb0; have HS0 := Lib.hid hs0; have HLE := Lib.hid hlen; have HW0 := Lib.hid hw0
  clear hcat hb0 hs0 hc0 hcl hlen hw0 hr hr2 hl hl2
  go_enter Try.func23, Try.ntmps23
  go_wp2_with fail
  refine HCAT.out.mono ?_
  rintro e w1 ⟨v, rfl, ho, hb1⟩
  rw [← HW0.out] at ho hb1
  have hb2 := HB0.out.trans (hb1.mono HB0.out.size)
  have hO : OwG w1 w0.heap.size v (l ++ l2) := ho
  have hlen := HLE.out
  have hcg : ∀ p, inR (l ++ l2) p = (inR l p || inR l2 p) := fun p => inR_append
  have HCG := Lib.hid hcg
  clear ho hcg
  generalize l ++ l2 = L at *
  obtain ⟨A3, c3, rfl, q1, q2, q3⟩ := hO.form
  have hcan := canon_any A3 L.length c3 L w1 w1.heap.size (Nat.le_refl _) q3 rfl (by omega)
  have HC := Lib.hid hcan; have HB2 := Lib.hid hb2
  have HLE2 := Lib.hid hlen
  clear hlen hO hb1 hb2 q1 q2 q3 hcan HCAT HW0
  go_wp2_with fail
  refine HC.out.mono ?_
  rintro e w2 ⟨v, out, rfl, h1, h2, h3, h4⟩
  have H1 := Lib.hid (h1.base HB2.out.size); have H2 := Lib.hid (h2.congr HCG.out); have H3 := Lib.hid (HB2.out.trans (h3.mono HB2.out.size))
  have H4 := Lib.hid (show out.length ≤ n + n2 by have := HLE2.out; omega)
  clear h1 h2 h3 h4
  go_wp2_with fail
  go_ret
  exact ⟨v, out, rfl, H1.out, H2.out, H3.out, H4.out⟩
end Go.Proofs.Ytihfdmjejllhnaa
