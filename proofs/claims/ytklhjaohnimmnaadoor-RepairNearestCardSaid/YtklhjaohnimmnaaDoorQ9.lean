/- grammar.length. · slices.Compare of integers, the document's Earlier. -/
import Derived.Test.YtklhjaohnimmnaaDoorQ8
import Derived.Test.YtklhjaohnimmnaaDoorQ3
import Derived.Deep.QuietTactic
import Derived.BigQuiet
namespace Go.Proofs.YtklhjaohnimmnaaDoor
open Go.RowKit
set_option linter.unusedVariables false
set_option linter.unusedSimpArgs false
set_option maxRecDepth 100000

theorem run_min2 (P : Program) (a b m : Int) (h : m = min a b) : ∀ (ts : Array TypeId) (t : TypeId) (w : World), (Builtin.min_ ts t #[.int .i64 a, .int .i64 b]).run P w = .ok (.int .i64 m) w := by
  intro ts t w
  rw [run_min_int2, show (if b < a then b else a) = m from by split <;> omega]
theorem drop_nth {l : List Int} {k : Nat} (h : k < l.length) : l.drop k = nth l k :: l.drop (k + 1) := by
  rw [nth_get h]; exact List.drop_eq_getElem_cons h
theorem mem_nth {l : List Int} {k : Nat} (h : k < l.length) : nth l k ∈ l := by rw [nth_get h]; exact List.getElem_mem h

/-- What the numbers of a list of lengths may be, and which symbols lead into it. -/
def LenOk (x : List Int) (r : List Int) : Prop := (∀ k, -1 ≤ nth x k ∧ nth x k ≤ 1000000) ∧ ∀ s ∈ r, s < 0 → (-1 - s).toNat < x.length

end Go.Proofs.YtklhjaohnimmnaaDoor
namespace Go.Proofs.YtklhjaohnimmnaaDoor
open Go.RowKit
set_option linter.unusedVariables false
set_option linter.unusedSimpArgs false
set_option maxRecDepth 100000

theorem isNaN_any (x : Int) (w : World) : Calls Tryd.prog 48 #[.int .i64 x] w fun e w' => e = .returned (.bool false) ∧ w = w' := by
  have h : (x != x) = false := by simp
  go_enter Tryd.func48, Tryd.ntmps48
  go_wp2
  go_ret
  exact ⟨rfl, rfl⟩
def cmpI (a b : Int) : Int := if a < b then -1 else if b < a then 1 else 0
theorem cmpInt_any (a b : Int) (w : World) : Calls Tryd.prog 47 #[.int .i64 a, .int .i64 b] w fun e w' => e = .returned (.int .i64 (cmpI a b)) ∧ w = w' := by
  have h1 := Lib.hid (isNaN_any a w); have h2 := Lib.hid (isNaN_any b w)
  by_cases ha : a < b
  · have d1 : decide (a < b) = true := decide_eq_true ha
    have HF : Hid (cmpI a b = -1) := Lib.hid (by unfold cmpI; rw [if_pos ha])
    go_enter Tryd.func47, Tryd.ntmps47
    go_wp2_with fail
    refine h1.out.mono ?_; rintro e w' ⟨rfl, rfl⟩
    go_wp2_with fail
    refine h2.out.mono ?_; rintro e w' ⟨rfl, rfl⟩
    go_wp2
    go_ret
    exact ⟨ret_eq (by rw [HF.out]; rfl), rfl⟩
  have d1 : decide (a < b) = false := decide_eq_false ha
  by_cases hb : b < a
  · have d2 : decide (b < a) = true := decide_eq_true hb
    have HF : Hid (cmpI a b = 1) := Lib.hid (by unfold cmpI; rw [if_neg ha, if_pos hb])
    go_enter Tryd.func47, Tryd.ntmps47
    go_wp2_with fail
    refine h1.out.mono ?_; rintro e w' ⟨rfl, rfl⟩
    go_wp2_with fail
    refine h2.out.mono ?_; rintro e w' ⟨rfl, rfl⟩
    go_wp2
    go_ret
    exact ⟨ret_eq (by rw [HF.out]; rfl), rfl⟩
  have d2 : decide (b < a) = false := decide_eq_false hb
  have HF : Hid (cmpI a b = 0) := Lib.hid (by unfold cmpI; rw [if_neg ha, if_neg hb])
  go_enter Tryd.func47, Tryd.ntmps47
  go_wp2_with fail
  refine h1.out.mono ?_; rintro e w' ⟨rfl, rfl⟩
  go_wp2_with fail
  refine h2.out.mono ?_; rintro e w' ⟨rfl, rfl⟩
  go_wp2
  go_ret
  exact ⟨ret_eq (by rw [HF.out]; rfl), rfl⟩

def cmpL : List Int → List Int → Int
  | [], [] => 0
  | [], _ :: _ => -1
  | _ :: _, [] => 1
  | a :: x, b :: y => if cmpI a b = 0 then cmpL x y else cmpI a b
theorem cmpL_neg : ∀ (a b : List Int), cmpL a b < 0 ↔ lexlt a b = true
  | [], [] => by simp [cmpL, lexlt]
  | [], _ :: _ => by simp [cmpL, lexlt]
  | _ :: _, [] => by simp [cmpL, lexlt]
  | a :: x, b :: y => by
    have ih := cmpL_neg x y
    have e0 : cmpL (a :: x) (b :: y) = if cmpI a b = 0 then cmpL x y else cmpI a b := rfl
    have e1 : lexlt (a :: x) (b :: y) = (decide (a < b) || (decide (a = b) && lexlt x y)) := rfl
    rw [e0, e1]
    by_cases h1 : a < b
    · have e : cmpI a b = -1 := by unfold cmpI; rw [if_pos h1]
      rw [e]; simp [h1]
    · by_cases h2 : b < a
      · have e : cmpI a b = 1 := by unfold cmpI; rw [if_neg h1, if_pos h2]
        have h3 : a ≠ b := by omega
        rw [e]; simp [h1, h3]
      · have e : cmpI a b = 0 := by unfold cmpI; rw [if_neg h1, if_neg h2]
        have h3 : a = b := by omega
        subst h3
        rw [e]; simp [ih]

theorem compare_any (A A' : Option Addr) (n c n' c' : Nat) (l l' : List Int) (w : World) (B B' : Nat) (h : RdI w B A l) (hl : l.length = n) (hm : n ≤ maxLen) (h' : RdI w B' A' l') (hl' : l'.length = n') (hm' : n' ≤ maxLen) :
    Calls Tryd.prog 42 #[.slice A n c, .slice A' n' c'] w fun e w' => e = .returned (.int .i64 (cmpL l l')) ∧ w = w' := by
  unfold maxLen at hm hm'
  have HL := Lib.hid hl; have HL' := Lib.hid hl'; have H := Lib.hid h; have H' := Lib.hid h'
  clear hl hl' h h'
  go_enter Tryd.func42, Tryd.ntmps42
  go_wp2_with fail
  go_loop [11] (fun i => ∃ k : Nat, k ≤ n ∧ k ≤ n' ∧ i = .int .i64 k ∧ Hid (cmpL l l' = cmpL (l.drop k) (l'.drop k))) (fun i => n - (intOf i).toNat)
  case atStart => exact ⟨0, Nat.zero_le _, Nat.zero_le _, rfl, rfl⟩
  case round =>
    obtain ⟨k, hk, hk', rfl, HE⟩ := hrel
    by_cases hlt : k < n
    · obtain ⟨b, off, rfl, hb, hc⟩ := H.out.at_ (by rw [HL.out]; omega)
      have z := hc k (by rw [HL.out]; omega)
      have hd := drop_nth (l := l) (k := k) (by rw [HL.out]; omega)
      generalize nth l k = s at z hd
      have HD := Lib.hid hd; clear hd hc
      by_cases hlt' : k < n'
      · have hlt2 : ¬ (n' : Int) ≤ k := by omega
        have d0 : decide ((n' : Int) ≤ k) = false := decide_eq_false hlt2
        obtain ⟨b', off', rfl, hb', hc'⟩ := H'.out.at_ (by rw [HL'.out]; omega)
        have z' := hc' k (by rw [HL'.out]; omega)
        have hd' := drop_nth (l := l') (k := k) (by rw [HL'.out]; omega)
        generalize nth l' k = t at z' hd'
        have HD' := Lib.hid hd'; clear hd' hc'
        have HC := Lib.hid (cmpInt_any s t w)
        by_cases hq : cmpI s t = 0
        · rw [hq] at HC
          have HF : Hid (cmpL l l' = cmpL (l.drop (k + 1)) (l'.drop (k + 1))) := Lib.hid (by rw [HE.out, HD.out, HD'.out]; simp only [cmpL]; rw [if_pos hq])
          clear hq
          go_wp2_with (go_at_call 47; refine HC.out.mono ?_; rintro e w' ⟨rfl, rfl⟩)
          go_round
          case rel => exact ⟨k + 1, by omega, by omega, by go_num, HF⟩
          case measure => simp [intOf]; omega
        · have HF : Hid (cmpL l l' = cmpI s t) := Lib.hid (by rw [HE.out, HD.out, HD'.out]; simp only [cmpL]; rw [if_neg hq])
          generalize cmpI s t = q at *
          have d3 : (q != 0) = true := by rw [bne_iff_ne]; exact hq
          clear hq
          go_wp2_with (go_at_call 47; refine HC.out.mono ?_; rintro e w' ⟨rfl, rfl⟩)
          go_ret
          exact ⟨ret_eq (by rw [HF.out]; rfl), rfl⟩
      · have hlt2 : (n' : Int) ≤ k := by omega
        have d0 : decide ((n' : Int) ≤ k) = true := decide_eq_true hlt2
        have HF : Hid (cmpL l l' = 1) := Lib.hid (by
          have e : l'.drop k = [] := List.drop_eq_nil_of_le (by rw [HL'.out]; omega)
          rw [HE.out, HD.out, e]; rfl)
        go_wp2
        go_ret
        exact ⟨ret_eq (by rw [HF.out]; rfl), rfl⟩
    · by_cases hn : n < n'
      · have d0 : decide (n < n') = true := decide_eq_true hn
        have HF : Hid (cmpL l l' = -1) := Lib.hid (by
          rw [HE.out, List.drop_eq_nil_of_le (by rw [HL.out]; omega), drop_nth (l := l') (k := k) (by rw [HL'.out]; omega)]; rfl)
        go_wp2
        go_ret
        exact ⟨ret_eq (by rw [HF.out]; rfl), rfl⟩
      · have d0 : decide (n < n') = false := decide_eq_false hn
        have HF : Hid (cmpL l l' = 0) := Lib.hid (by
          rw [HE.out, List.drop_eq_nil_of_le (by rw [HL.out]; omega), List.drop_eq_nil_of_le (by rw [HL'.out]; omega)]; rfl)
        go_wp2
        go_ret
        exact ⟨ret_eq (by rw [HF.out]; rfl), rfl⟩

theorem earlier_any (A A' : Option Addr) (n c n' c' : Nat) (l l' : List Int) (w : World) (B B' : Nat) (h : RdI w B A l) (hl : l.length = n) (hm : n ≤ maxLen) (h' : RdI w B' A' l') (hl' : l'.length = n') (hm' : n' ≤ maxLen) :
    Calls Tryd.prog 10 #[.slice A n c, .slice A' n' c'] w fun e w' => e = .returned (.bool (earl l l')) ∧ ∃ d, w' = w.drewN d := by
  unfold maxLen at hm hm'
  have HL := Lib.hid hl; have HL' := Lib.hid hl'; have H := Lib.hid h; have H' := Lib.hid h'
  clear hl hl' h h'
  by_cases hn : n = n'
  rotate_left
  · have d0 : ((n : Int) != n') = true := by rw [bne_iff_ne]; omega
    have HF : Hid (earl l l' = decide (n < n')) := Lib.hid (by unfold earl; rw [if_neg (by rw [HL.out, HL'.out]; exact hn), HL.out, HL'.out])
    go_enter Tryd.func10, Tryd.ntmps10
    go_wp2
    go_ret
    exact ⟨ret_eq (by rw [HF.out]; simp), 0, rfl⟩
  · subst hn
    have HF0 : Hid (earl l l' = lexlt l l') := Lib.hid (by unfold earl; rw [if_pos (by rw [HL.out, HL'.out])])
    have d0 : ((n : Int) != n) = false := by simp
    go_enter Tryd.func10, Tryd.ntmps10
    go_wp2_with fail
    go_loopw [5] (fun i wr => ∃ k : Nat, ∃ d : Nat, k ≤ n ∧ i = .int .i64 k ∧ Hid (lexlt l l' = lexlt (l.drop k) (l'.drop k)) ∧ wr = w.drewN d) (fun i _ => n - (intOf i).toNat)
    case atStart => exact ⟨0, 0, Nat.zero_le _, rfl, rfl, rfl⟩
    case round =>
      obtain ⟨k, d, hk, rfl, HE, rfl⟩ := hrel
      by_cases hlt : k < n
      · obtain ⟨b, off, rfl, hb, hc⟩ := H.out.at_ (by rw [HL.out]; omega)
        have z := hc k (by rw [HL.out]; omega)
        have hd := drop_nth (l := l) (k := k) (by rw [HL.out]; omega)
        generalize nth l k = s at z hd
        have HD := Lib.hid hd; clear hd hc
        obtain ⟨b', off', rfl, hb', hc'⟩ := H'.out.at_ (by rw [HL'.out]; omega)
        have z' := hc' k (by rw [HL'.out]; omega)
        have hd' := drop_nth (l := l') (k := k) (by rw [HL'.out]; omega)
        generalize nth l' k = t at z' hd'
        have HD' := Lib.hid hd'; clear hd' hc'
        by_cases hst : s = t
        · have d1 : (s != t) = false := by rw [bne_eq_false_iff_eq]; exact hst
          have HF : Hid (lexlt l l' = lexlt (l.drop (k + 1)) (l'.drop (k + 1))) := Lib.hid (by rw [HE.out, HD.out, HD'.out]; simp [lexlt, hst])
          clear hst
          go_wp2_with fail
          go_quiet (fail)
          go_wp2
          go_roundw
          case rel => exact ⟨k + 1, d + nq, by omega, by go_num, HF, by first | rfl | rw [World.drewN_drewN]⟩
          case measure => simp [intOf]; omega
        · have d1 : (s != t) = true := by rw [bne_iff_ne]; exact hst
          have HF : Hid (lexlt l l' = decide (s < t)) := Lib.hid (by rw [HE.out, HD.out, HD'.out]; simp [lexlt, hst])
          clear hst
          go_wp2_with fail
          go_quiet (fail)
          go_wp2_with fail
          go_quiet (fail)
          go_wp2
          go_ret
          exact ⟨ret_eq (by rw [HF0.out, HF.out]; rfl), _, by first | rfl | rw [World.drewN_drewN, World.drewN_drewN]⟩
      · have HF : Hid (lexlt l l' = false) := Lib.hid (by
          rw [HE.out, List.drop_eq_nil_of_le (by rw [HL.out]; omega), List.drop_eq_nil_of_le (by rw [HL'.out]; omega)]; rfl)
        go_wp2
        go_ret
        exact ⟨ret_eq (by rw [HF0.out, HF.out]; rfl), d, rfl⟩
end Go.Proofs.YtklhjaohnimmnaaDoor
