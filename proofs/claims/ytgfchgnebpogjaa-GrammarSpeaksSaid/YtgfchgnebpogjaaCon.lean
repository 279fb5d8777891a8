/- slices.ContainsFunc of integers with a closure that leaves the world alone. -/
import Derived.Test.YtgfchgnebpogjaaGrL
namespace Go.Proofs.Ytgfchgnebpogjaa
open Go.RowKit
set_option linter.unusedVariables false
set_option linter.unusedSimpArgs false
set_option maxRecDepth 100000

theorem any_take {f : Int → Bool} {l : List Int} {k : Nat} (h : k < l.length) (ha : (l.take k).any f = false) (hf : f (nth l k) = false) : (l.take (k + 1)).any f = false := by
  rw [List.take_succ_eq_append_getElem h, List.any_append, ha, ← nth_get h]; simp [hf]
theorem any_yes {f : Int → Bool} {l : List Int} {k : Nat} (h : k < l.length) (hf : f (nth l k) = true) : l.any f = true := by
  rw [List.any_eq_true]; exact ⟨nth l k, mem_nth h, hf⟩


theorem index1 (fid : FuncId) (v0 : Nat) (f : Int → Bool) (A : Option Addr) (n c : Nat) (l : List Int) (w : World) (B : Nat) (hrun : ∀ args w, (callFunc fid args).run Try.prog w = .ok (.enter fid args) w)
    (h : RdI w B A l) (hl : l.length = n) (hm : n ≤ maxLen) (hcall : ∀ x ∈ l, Calls Try.prog fid #[.int .i64 x, .pointer (some ⟨v0, 0, none⟩)] w fun e w' => e = .returned (.bool (f x)) ∧ w = w') :
    Calls Try.prog 76 #[.slice A n c, .func (.func fid) #[] #[.pointer (some ⟨v0, 0, none⟩)]] w fun e w' => ∃ i : Int, e = .returned (.int .i64 i) ∧ Hid (decide (0 ≤ i) = l.any f) ∧ w = w' := by
  unfold maxLen at hm
  have Hl := Lib.hid hl; have H := Lib.hid h; have HCALL := Lib.hid hcall; clear hl h hcall
  go_enter Try.func76, Try.ntmps76
  go_wp2_with fail
  go_loop [8] (fun i => ∃ k : Nat, k ≤ n ∧ i = .int .i64 k ∧ Hid ((l.take k).any f = false)) (fun i => n - (intOf i).toNat)
  case atStart => exact ⟨0, Nat.zero_le _, rfl, rfl⟩
  case round =>
    obtain ⟨k, hk, rfl, HE⟩ := hrel
    by_cases hlt : k < n
    · obtain ⟨b, off, rfl, hb, hc⟩ := H.out.at_ (by rw [Hl.out]; omega)
      have c1 := hc k (by rw [Hl.out]; omega)
      have hmem := mem_nth (l := l) (k := k) (by rw [Hl.out]; exact hlt)
      have hcl := HCALL.out _ hmem
      have hy := any_yes (f := f) (l := l) (k := k) (by rw [Hl.out]; exact hlt)
      have ht := any_take (f := f) (l := l) (k := k) (by rw [Hl.out]; exact hlt) HE.out
      clear hc hmem
      generalize nth l k = x at c1 hcl hy ht
      cases hb1 : f x
      · rw [hb1] at hcl
        have HC := Lib.hid hcl; have HT := Lib.hid (ht hb1)
        clear hcl hy ht hb1
        go_wp2_with fail
        refine HC.out.mono ?_
        rintro e w' ⟨rfl, rfl⟩
        go_wp2_with fail
        go_round
        case rel => exact ⟨k + 1, by omega, by go_num, HT⟩
        case measure => simp [intOf]; omega
      · rw [hb1] at hcl
        have HC := Lib.hid hcl; have HY := Lib.hid (hy hb1)
        clear hcl hy ht hb1
        go_wp2_with fail
        refine HC.out.mono ?_
        rintro e w' ⟨rfl, rfl⟩
        go_wp2_with fail
        go_ret
        exact ⟨k, rfl, by show _ = _; rw [HY.out]; simp, rfl⟩
    · have hx : l.any f = false := by have := HE.out; rwa [List.take_of_length_le (by rw [Hl.out]; omega)] at this
      have HX := Lib.hid hx; clear hx
      go_wp2
      go_ret
      exact ⟨-1, rfl, by show _ = _; rw [HX.out]; rfl, rfl⟩

theorem contains1 (fid : FuncId) (v0 : Nat) (f : Int → Bool) (A : Option Addr) (n c : Nat) (l : List Int) (w : World) (B : Nat) (hrun : ∀ args w, (callFunc fid args).run Try.prog w = .ok (.enter fid args) w)
    (h : RdI w B A l) (hl : l.length = n) (hm : n ≤ maxLen) (hcall : ∀ x ∈ l, Calls Try.prog fid #[.int .i64 x, .pointer (some ⟨v0, 0, none⟩)] w fun e w' => e = .returned (.bool (f x)) ∧ w = w') :
    Calls Try.prog 56 #[.slice A n c, .func (.func fid) #[] #[.pointer (some ⟨v0, 0, none⟩)]] w fun e w' => e = .returned (.bool (l.any f)) ∧ w = w' := by
  have HC := Lib.hid (index1 fid v0 f A n c l w B hrun h hl hm hcall)
  clear h hl hm hcall
  go_enter Try.func56, Try.ntmps56
  go_wp2_with fail
  refine HC.out.mono ?_
  rintro e w' ⟨i, rfl, HI, rfl⟩
  go_wp2
  go_ret
  exact ⟨ret_eq (by rw [← HI.out]; rfl), rfl⟩


theorem index2 (fid : FuncId) (v0 v1 : Nat) (f : Int → Bool) (A : Option Addr) (n c : Nat) (l : List Int) (w : World) (B : Nat) (hrun : ∀ args w, (callFunc fid args).run Try.prog w = .ok (.enter fid args) w)
    (h : RdI w B A l) (hl : l.length = n) (hm : n ≤ maxLen) (hcall : ∀ x ∈ l, Calls Try.prog fid #[.int .i64 x, .pointer (some ⟨v0, 0, none⟩), .pointer (some ⟨v1, 0, none⟩)] w fun e w' => e = .returned (.bool (f x)) ∧ w = w') :
    Calls Try.prog 76 #[.slice A n c, .func (.func fid) #[] #[.pointer (some ⟨v0, 0, none⟩), .pointer (some ⟨v1, 0, none⟩)]] w fun e w' => ∃ i : Int, e = .returned (.int .i64 i) ∧ Hid (decide (0 ≤ i) = l.any f) ∧ w = w' := by
  unfold maxLen at hm
  have Hl := Lib.hid hl; have H := Lib.hid h; have HCALL := Lib.hid hcall; clear hl h hcall
  go_enter Try.func76, Try.ntmps76
  go_wp2_with fail
  go_loop [8] (fun i => ∃ k : Nat, k ≤ n ∧ i = .int .i64 k ∧ Hid ((l.take k).any f = false)) (fun i => n - (intOf i).toNat)
  case atStart => exact ⟨0, Nat.zero_le _, rfl, rfl⟩
  case round =>
    obtain ⟨k, hk, rfl, HE⟩ := hrel
    by_cases hlt : k < n
    · obtain ⟨b, off, rfl, hb, hc⟩ := H.out.at_ (by rw [Hl.out]; omega)
      have c1 := hc k (by rw [Hl.out]; omega)
      have hmem := mem_nth (l := l) (k := k) (by rw [Hl.out]; exact hlt)
      have hcl := HCALL.out _ hmem
      have hy := any_yes (f := f) (l := l) (k := k) (by rw [Hl.out]; exact hlt)
      have ht := any_take (f := f) (l := l) (k := k) (by rw [Hl.out]; exact hlt) HE.out
      clear hc hmem
      generalize nth l k = x at c1 hcl hy ht
      cases hb1 : f x
      · rw [hb1] at hcl
        have HC := Lib.hid hcl; have HT := Lib.hid (ht hb1)
        clear hcl hy ht hb1
        go_wp2_with fail
        refine HC.out.mono ?_
        rintro e w' ⟨rfl, rfl⟩
        go_wp2_with fail
        go_round
        case rel => exact ⟨k + 1, by omega, by go_num, HT⟩
        case measure => simp [intOf]; omega
      · rw [hb1] at hcl
        have HC := Lib.hid hcl; have HY := Lib.hid (hy hb1)
        clear hcl hy ht hb1
        go_wp2_with fail
        refine HC.out.mono ?_
        rintro e w' ⟨rfl, rfl⟩
        go_wp2_with fail
        go_ret
        exact ⟨k, rfl, by show _ = _; rw [HY.out]; simp, rfl⟩
    · have hx : l.any f = false := by have := HE.out; rwa [List.take_of_length_le (by rw [Hl.out]; omega)] at this
      have HX := Lib.hid hx; clear hx
      go_wp2
      go_ret
      exact ⟨-1, rfl, by show _ = _; rw [HX.out]; rfl, rfl⟩

theorem contains2 (fid : FuncId) (v0 v1 : Nat) (f : Int → Bool) (A : Option Addr) (n c : Nat) (l : List Int) (w : World) (B : Nat) (hrun : ∀ args w, (callFunc fid args).run Try.prog w = .ok (.enter fid args) w)
    (h : RdI w B A l) (hl : l.length = n) (hm : n ≤ maxLen) (hcall : ∀ x ∈ l, Calls Try.prog fid #[.int .i64 x, .pointer (some ⟨v0, 0, none⟩), .pointer (some ⟨v1, 0, none⟩)] w fun e w' => e = .returned (.bool (f x)) ∧ w = w') :
    Calls Try.prog 56 #[.slice A n c, .func (.func fid) #[] #[.pointer (some ⟨v0, 0, none⟩), .pointer (some ⟨v1, 0, none⟩)]] w fun e w' => e = .returned (.bool (l.any f)) ∧ w = w' := by
  have HC := Lib.hid (index2 fid v0 v1 f A n c l w B hrun h hl hm hcall)
  clear h hl hm hcall
  go_enter Try.func56, Try.ntmps56
  go_wp2_with fail
  refine HC.out.mono ?_
  rintro e w' ⟨i, rfl, HI, rfl⟩
  go_wp2
  go_ret
  exact ⟨ret_eq (by rw [← HI.out]; rfl), rfl⟩
end Go.Proofs.Ytgfchgnebpogjaa
