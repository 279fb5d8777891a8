/- grammar.length. -/
import Derived.Test.YtgfchgnebpogjaaGr
import Derived.Test.YtgfchgnebpogjaaShoP
import Derived.Deep.QuietTactic
import Derived.BigQuiet
namespace Go.Proofs.Ytgfchgnebpogjaa
open Go.RowKit
set_option linter.unusedVariables false
set_option linter.unusedSimpArgs false
set_option maxRecDepth 100000

theorem run_min2 (P : Program) (a b m : Int) (h : m = min a b) : ∀ (ts : Array TypeId) (t : TypeId) (w : World), (Builtin.min_ ts t #[.int .i64 a, .int .i64 b]).run P w = .ok (.int .i64 m) w := by
  intro ts t w
  rw [run_min_int2, show (if b < a then b else a) = m from by split <;> omega]
theorem drop_nth {l : List Int} {k : Nat} (h : k < l.length) : l.drop k = nth l k :: l.drop (k + 1) := by
  rw [nth_get h]; exact List.drop_eq_getElem_cons h
theorem mem_nth {l : List Int} {k : Nat} (h : k < l.length) : nth l k ∈ l := by rw [nth_get h]; exact List.getElem_mem h

/-- What the numbers of a list of lengths may be, and which symbols lead into it. -/
def LenOk (x : List Int) (r : List Int) : Prop := (∀ k, -1 ≤ nth x k ∧ nth x k ≤ 1000000) ∧ ∀ s ∈ r, s < 0 → (-1 - s).toNat < x.length

theorem length_any (A A' : Option Addr) (n c n' c' : Nat) (r x : List Int) (w : World) (B : Nat) (h : RdI w B A r) (hl : r.length = n) (hm : n ≤ maxLen) (h' : RdI w B A' x) (hl' : x.length = n') (hm' : n' ≤ maxLen) (hx : LenOk x r) :
    Calls Try.prog 41 #[.slice A n c, .slice A' n' c'] w fun e w' => e = .returned (.int .i64 (lenF x 0 r)) ∧ w = w' := by
  unfold maxLen at hm hm'
  have HL := Lib.hid hl; have HL' := Lib.hid hl'; have HX := Lib.hid hx; have H := Lib.hid h; have H' := Lib.hid h'
  clear hl hl' hx h h'
  go_enter Try.func41, Try.ntmps41
  go_wp2_with fail
  go_loop [5, 11] (fun v i => ∃ k : Nat, ∃ m : Int, k ≤ n ∧ i = .int .i64 k ∧ v = .int .i64 m ∧ 0 ≤ m ∧ m ≤ 1000000 ∧ Hid (lenF x 0 r = lenF x m (r.drop k))) (fun _ i => n - (intOf i).toNat)
  case atStart => exact ⟨0, 0, Nat.zero_le _, rfl, rfl, by omega, by omega, rfl⟩
  case round =>
    obtain ⟨k, m, hk, rfl, rfl, hm0, hm1, HE⟩ := hrel
    by_cases hlt : k < n
    · obtain ⟨b, off, rfl, hb, hc⟩ := H.out.at_ (by rw [HL.out]; omega)
      have z := hc k (by rw [HL.out]; omega)
      have hd := drop_nth (l := r) (k := k) (by rw [HL.out]; omega)
      have hmem := HX.out.2 _ (mem_nth (l := r) (k := k) (by rw [HL.out]; omega))
      generalize nth r k = s at z hd hmem
      have HD := Lib.hid hd; clear hd hc
      by_cases hs : s < 0
      · have d1 : decide (s < 0) = true := decide_eq_true hs
        have ht := hmem hs
        rw [HL'.out] at ht
        obtain ⟨t, ht1⟩ : ∃ t : Nat, t = (-1 - s).toNat := ⟨_, rfl⟩
        rw [← ht1] at ht
        have hts : -1 - s = (t : Int) := by omega
        obtain ⟨b', off', rfl, hb', hc'⟩ := H'.out.at_ (by rw [HL'.out]; omega)
        have z' := hc' t (by rw [HL'.out]; omega)
        have hbd := HX.out.1 t
        have hsym : symL x s = nth x t := by unfold symL; rw [if_pos hs, ← ht1]
        generalize nth x t = v at z' hbd hsym
        have HY := Lib.hid hsym
        clear hc' ht1 hmem hsym
        obtain ⟨hv0, hv1⟩ := hbd
        by_cases hv : v < 0
        · have d2 : decide (v < 0) = true := decide_eq_true hv
          have HF : Hid (lenF x 0 r = -1) := Lib.hid (by rw [HE.out, HD.out]; simp only [lenF]; rw [HY.out, if_pos hv])
          go_wp2
          go_ret
          exact ⟨ret_eq (by rw [HF.out]; rfl), rfl⟩
        · have d2 : decide (v < 0) = false := decide_eq_false hv
          have hmin := run_min2 Try.prog (m + v) 1000000 (min (m + v) 1000000) rfl
          have hq0 : 0 ≤ min (m + v) 1000000 := by omega
          have hq1 : min (m + v) 1000000 ≤ 1000000 := by omega
          have HF : Hid (lenF x 0 r = lenF x (min (m + v) 1000000) (r.drop (k + 1))) := Lib.hid (by rw [HE.out, HD.out]; simp only [lenF]; rw [HY.out, if_neg hv])
          generalize min (m + v) 1000000 = q at *
          go_wp2
          go_round
          case rel => exact ⟨k + 1, q, by omega, by go_num, rfl, hq0, hq1, HF⟩
          case measure => simp [intOf]; omega
      · have d1 : decide (s < 0) = false := decide_eq_false hs
        have hmin := run_min2 Try.prog (m + 1) 1000000 (min (m + 1) 1000000) rfl
        have hq0 : 0 ≤ min (m + 1) 1000000 := by omega
        have hq1 : min (m + 1) 1000000 ≤ 1000000 := by omega
        have HF : Hid (lenF x 0 r = lenF x (min (m + 1) 1000000) (r.drop (k + 1))) := Lib.hid (by
          have hsym : symL x s = 1 := by unfold symL; rw [if_neg hs]
          rw [HE.out, HD.out]; simp only [lenF]; rw [hsym, if_neg (by omega)])
        generalize min (m + 1) 1000000 = q at *
        clear hmem
        go_wp2
        go_round
        case rel => exact ⟨k + 1, q, by omega, by go_num, rfl, hq0, hq1, HF⟩
        case measure => simp [intOf]; omega
    · have HF : Hid (lenF x 0 r = m) := Lib.hid (by rw [HE.out, List.drop_eq_nil_of_le (by rw [HL.out]; omega)]; rfl)
      go_wp2
      go_ret
      exact ⟨ret_eq (by rw [HF.out]; rfl), rfl⟩
end Go.Proofs.Ytgfchgnebpogjaa
