/- Contracts under the costs of edits: least, costsOk, inside; costs by ContainsFunc. -/
import Derived.Test.YtgfchgnebpogjaaProg
import Derived.Test.YtgfchgnebpogjaaBlk
import Derived.WalkSpells
import Derived.WalkLawsBesides
import Derived.Handy
import Derived.Deep.QuietTactic
import Derived.BigQuiet
namespace Go.Proofs.Ytgfchgnebpogjaa
open Go.RowKit
set_option linter.unusedVariables false
set_option linter.unusedSimpArgs false
set_option maxRecDepth 100000

theorem least_any (a b : Int) (w : World) : Calls Try.prog 36 #[.int .i64 a, .int .i64 b] w fun e w' => e = .returned (.int .i64 (min a b)) ∧ w = w' := by
  by_cases h : a < b
  · have hm : min a b = a := by omega
    have HM := Lib.hid hm; clear hm
    go_enter Try.func36, Try.ntmps36
    go_wp2
    go_ret
    exact ⟨ret_eq (by rw [HM.out]; rfl), rfl⟩
  · have hm : min a b = b := by omega
    have HM := Lib.hid hm; clear hm
    go_enter Try.func36, Try.ntmps36
    go_wp2
    go_ret
    exact ⟨ret_eq (by rw [HM.out]; rfl), rfl⟩

def costB (c : Int) : Bool := decide (1 ≤ c) && decide (c ≤ 1000)
theorem costB_iff {c : Int} : costB c = true ↔ 1 ≤ c ∧ c ≤ 1000 := by simp [costB]
def insB (n : Int) (t : Int) : Bool := decide (0 ≤ t) && decide (t < n)
theorem insB_iff {n t : Int} : insB n t = true ↔ 0 ≤ t ∧ t < n := by simp [insB]

theorem all_take {f : Int → Bool} {l : List Int} {k : Nat} (h : k < l.length) (ha : (l.take k).all f = true) (hf : f (nth l k) = true) : (l.take (k + 1)).all f = true := by
  rw [List.take_succ_eq_append_getElem h, List.all_append, ha, ← nth_get h]; simp [hf]
theorem all_bad {f : Int → Bool} {l : List Int} {k : Nat} (h : k < l.length) (hf : f (nth l k) = false) : l.all f = false := by
  rw [List.all_eq_false]
  exact ⟨nth l k, by rw [nth_get h]; exact List.getElem_mem h, by rw [hf]; simp⟩
theorem all_end {f : Int → Bool} {l : List Int} {n k : Nat} (hl : l.length = n) (hk : ¬ k < n) (h : (l.take k).all f = true) : l.all f = true := by
  rwa [List.take_of_length_le (by omega)] at h

theorem costsOk_any (A : Option Addr) (n c : Nat) (l : List Int) (w : World) (B : Nat) (h : RdI w B A l) (hl : l.length = n) (hm : n ≤ maxLen) :
    Calls Try.prog 37 #[.slice A n c] w fun e w' => e = .returned (.bool (l.all costB)) ∧ w = w' := by
  unfold maxLen at hm
  have Hl := Lib.hid hl; clear hl
  go_enter Try.func37, Try.ntmps37
  go_wp2
  go_loop [3] (fun i => ∃ k : Nat, k ≤ n ∧ i = .int .i64 k ∧ Hid ((l.take k).all costB = true)) (fun i => n - (intOf i).toNat)
  case atStart => exact ⟨0, Nat.zero_le _, rfl, rfl⟩
  case round =>
    obtain ⟨k, hk, rfl, HE⟩ := hrel
    by_cases hlt : k < n
    · obtain ⟨b, off, rfl, hb, hc⟩ := h.at_ (by rw [Hl.out]; omega)
      have c1 := hc k (by rw [Hl.out]; omega)
      clear hc
      obtain ⟨x, hx⟩ : ∃ x, x = nth l k := ⟨_, rfl⟩
      rw [← hx] at c1
      have HX := Lib.hid hx; clear hx
      by_cases h1 : x < 1
      · have d1 : decide (x < 1) = true := decide_eq_true h1
        have hb := all_bad (f := costB) (l := l) (k := k) (by rw [Hl.out]; exact hlt) (by rw [← HX.out]; cases hh : costB x; rfl; rw [costB_iff] at hh; omega)
        have HB := Lib.hid hb; clear hb
        go_wp2
        go_ret
        exact ⟨ret_eq (by rw [HB.out]; rfl), rfl⟩
      have d1 : decide (x < 1) = false := decide_eq_false h1
      by_cases h2 : 1000 < x
      · have d2 : decide (1000 < x) = true := decide_eq_true h2
        have hb := all_bad (f := costB) (l := l) (k := k) (by rw [Hl.out]; exact hlt) (by rw [← HX.out]; cases hh : costB x; rfl; rw [costB_iff] at hh; omega)
        have HB := Lib.hid hb; clear hb
        go_wp2
        go_ret
        exact ⟨ret_eq (by rw [HB.out]; rfl), rfl⟩
      have d2 : decide (1000 < x) = false := decide_eq_false h2
      go_wp2
      go_round
      case rel => exact ⟨k + 1, by omega, by go_num, all_take (by rw [Hl.out]; exact hlt) HE.out (by rw [← HX.out, costB_iff]; omega)⟩
      case measure => simp [intOf]; omega
    · have hx := all_end Hl.out hlt HE.out
      have HX := Lib.hid hx; clear hx
      go_wp2
      go_ret
      exact ⟨ret_eq (by rw [HX.out]; rfl), rfl⟩

theorem inside_any (A : Option Addr) (n c : Nat) (l : List Int) (m : Int) (w : World) (B : Nat) (h : RdI w B A l) (hl : l.length = n) (hm : n ≤ maxLen) :
    Calls Try.prog 38 #[.slice A n c, .int .i64 m] w fun e w' => e = .returned (.bool (l.all (insB m))) ∧ w = w' := by
  unfold maxLen at hm
  have Hl := Lib.hid hl; clear hl
  go_enter Try.func38, Try.ntmps38
  go_wp2
  go_loop [5] (fun i => ∃ k : Nat, k ≤ n ∧ i = .int .i64 k ∧ Hid ((l.take k).all (insB m) = true)) (fun i => n - (intOf i).toNat)
  case atStart => exact ⟨0, Nat.zero_le _, rfl, rfl⟩
  case round =>
    obtain ⟨k, hk, rfl, HE⟩ := hrel
    by_cases hlt : k < n
    · obtain ⟨b, off, rfl, hb, hc⟩ := h.at_ (by rw [Hl.out]; omega)
      have c1 := hc k (by rw [Hl.out]; omega)
      clear hc
      obtain ⟨x, hx⟩ : ∃ x, x = nth l k := ⟨_, rfl⟩
      rw [← hx] at c1
      have HX := Lib.hid hx; clear hx
      by_cases h1 : x < 0
      · have d1 : decide (x < 0) = true := decide_eq_true h1
        have hb := all_bad (f := insB m) (l := l) (k := k) (by rw [Hl.out]; exact hlt) (by rw [← HX.out]; cases hh : insB m x; rfl; rw [insB_iff] at hh; omega)
        have HB := Lib.hid hb; clear hb
        go_wp2
        go_ret
        exact ⟨ret_eq (by rw [HB.out]; rfl), rfl⟩
      have d1 : decide (x < 0) = false := decide_eq_false h1
      by_cases h2 : m ≤ x
      · have d2 : decide (m ≤ x) = true := decide_eq_true h2
        have hb := all_bad (f := insB m) (l := l) (k := k) (by rw [Hl.out]; exact hlt) (by rw [← HX.out]; cases hh : insB m x; rfl; rw [insB_iff] at hh; omega)
        have HB := Lib.hid hb; clear hb
        go_wp2
        go_ret
        exact ⟨ret_eq (by rw [HB.out]; rfl), rfl⟩
      have d2 : decide (m ≤ x) = false := decide_eq_false h2
      go_wp2
      go_round
      case rel => exact ⟨k + 1, by omega, by go_num, all_take (by rw [Hl.out]; exact hlt) HE.out (by rw [← HX.out, insB_iff]; omega)⟩
      case measure => simp [intOf]; omega
    · have hx := all_end Hl.out hlt HE.out
      have HX := Lib.hid hx; clear hx
      go_wp2
      go_ret
      exact ⟨ret_eq (by rw [HX.out]; rfl), rfl⟩

/-! ### the program's costs -/
theorem costs1_any (x : Int) (w : World) : Calls Try.prog 68 #[.int .i64 x] w fun e w' => e = .returned (.bool (!costB x)) ∧ w = w' := by
  by_cases h1 : x < 1
  · have d1 : decide (x < 1) = true := decide_eq_true h1
    have hb : (!costB x) = true := by cases hh : costB x; rfl; rw [costB_iff] at hh; omega
    have HB := Lib.hid hb; clear hb
    go_enter Try.func68, Try.ntmps68
    go_wp2
    go_ret
    exact ⟨ret_eq (by rw [HB.out]; rfl), rfl⟩
  have d1 : decide (x < 1) = false := decide_eq_false h1
  by_cases h2 : 1000 < x
  · have d2 : decide (1000 < x) = true := decide_eq_true h2
    have hb : (!costB x) = true := by cases hh : costB x; rfl; rw [costB_iff] at hh; omega
    have HB := Lib.hid hb; clear hb
    go_enter Try.func68, Try.ntmps68
    go_wp2
    go_ret
    exact ⟨ret_eq (by rw [HB.out]; rfl), rfl⟩
  have d2 : decide (1000 < x) = false := decide_eq_false h2
  have hb : (!costB x) = false := by rw [costB_iff.2 ⟨by omega, by omega⟩]; rfl
  have HB := Lib.hid hb; clear hb
  go_enter Try.func68, Try.ntmps68
  go_wp2
  go_ret
  exact ⟨ret_eq (by rw [HB.out]; rfl), rfl⟩

theorem idxCosts_any (A : Option Addr) (n c : Nat) (l : List Int) (w : World) (B : Nat) (h : RdI w B A l) (hl : l.length = n) (hm : n ≤ maxLen) :
    Calls Try.prog 76 #[.slice A n c, .func (.func 68) #[] #[]] w fun e w' => ∃ i : Int, e = .returned (.int .i64 i) ∧ Hid (decide (0 ≤ i) = !l.all costB) ∧ w = w' := by
  unfold maxLen at hm
  have Hl := Lib.hid hl; clear hl
  go_enter Try.func76, Try.ntmps76
  go_wp2
  go_loop [8] (fun i => ∃ k : Nat, k ≤ n ∧ i = .int .i64 k ∧ Hid ((l.take k).all costB = true)) (fun i => n - (intOf i).toNat)
  case atStart => exact ⟨0, Nat.zero_le _, rfl, rfl⟩
  case round =>
    obtain ⟨k, hk, rfl, HE⟩ := hrel
    by_cases hlt : k < n
    · obtain ⟨b, off, rfl, hb, hc⟩ := h.at_ (by rw [Hl.out]; omega)
      have c1 := hc k (by rw [Hl.out]; omega)
      clear hc
      obtain ⟨x, hx⟩ : ∃ x, x = nth l k := ⟨_, rfl⟩
      rw [← hx] at c1
      have HX := Lib.hid hx; clear hx
      have hcall := costs1_any x w
      cases hb1 : costB x
      · rw [hb1] at hcall
        have HC := Lib.hid hcall; clear hcall
        have hb := all_bad (f := costB) (l := l) (k := k) (by rw [Hl.out]; exact hlt) (by rw [← HX.out]; exact hb1)
        have HB := Lib.hid hb; clear hb hb1
        go_wp2_with (go_at_call 68; refine HC.out.mono ?_; rintro e w' ⟨rfl, rfl⟩)
        go_ret
        exact ⟨k, rfl, by show _ = _; rw [HB.out]; simp, rfl⟩
      · rw [hb1] at hcall
        have HC := Lib.hid hcall; clear hcall
        have HB := Lib.hid hb1; clear hb1
        go_wp2_with (go_at_call 68; refine HC.out.mono ?_; rintro e w' ⟨rfl, rfl⟩)
        go_round
        case rel => exact ⟨k + 1, by omega, by go_num, all_take (by rw [Hl.out]; exact hlt) HE.out (by rw [← HX.out]; exact HB.out)⟩
        case measure => simp [intOf]; omega
    · have hx := all_end Hl.out hlt HE.out
      have HX := Lib.hid hx; clear hx
      go_wp2
      go_ret
      exact ⟨-1, rfl, by show _ = _; rw [HX.out]; rfl, rfl⟩

theorem hasCosts_any (A : Option Addr) (n c : Nat) (l : List Int) (w : World) (B : Nat) (h : RdI w B A l) (hl : l.length = n) (hm : n ≤ maxLen) :
    Calls Try.prog 56 #[.slice A n c, .func (.func 68) #[] #[]] w fun e w' => e = .returned (.bool (!l.all costB)) ∧ w = w' := by
  have hcall := idxCosts_any A n c l w B h hl hm
  have HC := Lib.hid hcall; clear hcall
  go_enter Try.func56, Try.ntmps56
  go_wp2_with (go_at_call 76; refine HC.out.mono ?_; rintro e w' ⟨i, rfl, HI, rfl⟩)
  go_ret
  exact ⟨ret_eq (by rw [← HI.out]; rfl), rfl⟩

theorem costs_any (A : Option Addr) (n c : Nat) (l : List Int) (m : Int) (w : World) (B : Nat) (h : RdI w B A l) (hl : l.length = n) (hm : n ≤ maxLen) :
    Calls Try.prog 34 #[.slice A n c, .int .i64 m] w fun e w' => e = .returned (.bool (decide (m ≤ n) && l.all costB)) ∧ w = w' := by
  have hcall := hasCosts_any A n c l w B h hl hm
  unfold maxLen at hm
  by_cases h1 : m ≤ n
  · have d1 : decide (m ≤ (n : Int)) = true := decide_eq_true h1
    have D := Lib.hid d1
    cases hb : l.all costB
    all_goals
      rw [hb] at hcall
      have HC := Lib.hid hcall; clear hcall hb
      go_enter Try.func34, Try.ntmps34
      go_wp2_with (go_at_call 56; refine HC.out.mono ?_; rintro e w' ⟨rfl, rfl⟩)
      go_ret
      exact ⟨ret_eq (by rw [D.out]; rfl), rfl⟩
  · have d1 : decide (m ≤ (n : Int)) = false := decide_eq_false h1
    have D := Lib.hid d1
    clear hcall
    go_enter Try.func34, Try.ntmps34
    go_wp2
    go_ret
    exact ⟨ret_eq (by first | rfl | (rw [D.out]; rfl) | (show Value.bool false = Value.bool (decide _ && _); rw [D.out]; rfl)), rfl⟩
end Go.Proofs.Ytgfchgnebpogjaa
