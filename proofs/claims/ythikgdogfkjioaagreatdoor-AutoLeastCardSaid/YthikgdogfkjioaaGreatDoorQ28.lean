/- The program's dense automaton: thick, its row. · The closure that compares two classes. -/
import Derived.Test.YthikgdogfkjioaaGreatDoorQ14
import Derived.Test.YthikgdogfkjioaaGreatDoorQ25
import Derived.Test.YthikgdogfkjioaaGreatDoorQ6
import Derived.Test.YthikgdogfkjioaaGreatDoorQ10
namespace Go.Proofs.YthikgdogfkjioaaGreatDoor
open Go.RowKit BigFrame
set_option linter.unusedVariables false
set_option linter.unusedSimpArgs false
set_option maxRecDepth 100000

/-- An alphabet: pieces, the class of each. -/
structure AlP (C : List (List Rg)) (X : List Rg) (Y : List Int) : Prop where
  len : Y.length = X.length
  pt : ∀ k, k < X.length → isP (nthR X k).1
  cls : ∀ k, k < X.length → nth Y k = (clsOf C (nthR X k).1 : Int) ∧ clsOf C (nthR X k).1 < C.length
  on : ∀ c, c < C.length → ∃ k, k < X.length ∧ clsOf C (nthR X k).1 = c
/-- The row so far: numbers of classes filled in by the first k pieces. -/
structure ThR (l : List St) (C : List (List Rg)) (X : List Rg) (i k : Nat) (row : List Int) : Prop where
  len : row.length = C.length
  a : ∀ c, c < C.length → nth row c = (l.length : Int) ∨ nth row c = (dlt l i (repOf C c) : Int)
  b : ∀ j, j < k → nth row (clsOf C (nthR X j).1) = (dlt l i (repOf C (clsOf C (nthR X j).1)) : Int)
theorem ThR.start {l : List St} {C : List (List Rg)} {X : List Rg} {i : Nat} : ThR l C X i 0 (List.replicate C.length (l.length : Int)) :=
  ⟨by simp, fun c hc => .inl (by unfold nth; simp [List.getD, hc]), fun j h => absurd h (by omega)⟩
theorem ThR.yes {l : List St} {C : List (List Rg)} {X : List Rg} {Y : List Int} {i k : Nat} {row : List Int} (h : ThR l C X i k row) (hA : AlP C X Y) (hC : Cls l C.length (repOf C) (clsOf C)) (hk : k < X.length) {t : Int} (ht : (dlt l i (nthR X k).1 : Int) = t) :
    ThR l C X i (k + 1) (row.set (clsOf C (nthR X k).1) t) := by
  obtain ⟨h1, h2⟩ := hA.cls k hk
  have e : (dlt l i (repOf C (clsOf C (nthR X k).1)) : Int) = t := by rw [← hC.co i _ (hA.pt k hk)]; exact ht
  have hl : clsOf C (nthR X k).1 < row.length := by rw [h.len]; exact h2
  refine ⟨by rw [List.length_set]; exact h.len, fun c hc => ?_, fun j hj => ?_⟩
  · rw [nth_set hl]
    by_cases q : clsOf C (nthR X k).1 = c
    · subst q; rw [if_pos rfl]; exact .inr e.symm
    · rw [if_neg q]; exact h.a c hc
  · rw [nth_set hl]
    by_cases q : clsOf C (nthR X k).1 = clsOf C (nthR X j).1
    · rw [if_pos q, ← q]; exact e.symm
    · rw [if_neg q]
      have : j ≠ k := fun z => q (by rw [z])
      exact h.b j (by omega)
theorem ThR.no {l : List St} {C : List (List Rg)} {X : List Rg} {Y : List Int} {i k : Nat} {row : List Int} (h : ThR l C X i k row) (hA : AlP C X Y) (hC : Cls l C.length (repOf C) (clsOf C)) (hk : k < X.length) (ht : dlt l i (nthR X k).1 = l.length) : ThR l C X i (k + 1) row := by
  obtain ⟨h1, h2⟩ := hA.cls k hk
  have e : dlt l i (repOf C (clsOf C (nthR X k).1)) = l.length := by rw [← hC.co i _ (hA.pt k hk)]; exact ht
  refine ⟨h.len, h.a, fun j hj => ?_⟩
  by_cases q : j = k
  · subst q
    rcases h.a _ h2 with z | z
    · rw [z, e]
    · exact z
  · exact h.b j (by omega)
theorem ThR.done {l : List St} {C : List (List Rg)} {X : List Rg} {Y : List Int} {i : Nat} {row : List Int} (h : ThR l C X i X.length row) (hA : AlP C X Y) : row = fulRow l C i := by
  apply List.ext_getElem
  · rw [h.len]; simp [fulRow]
  · intro c h1 h2
    have hc : c < C.length := by rw [← h.len]; exact h1
    obtain ⟨k, hk, e⟩ := hA.on c hc
    have := h.b k hk
    rw [e] at this
    rw [nth_get h1] at this
    rw [this]
    simp [fulRow]
/-- The last row: no state leads anywhere. -/
theorem ful_last {l : List St} {C : List (List Rg)} : List.replicate C.length (l.length : Int) = fulRow l C l.length := by
  unfold fulRow
  apply List.ext_getElem
  · simp
  · intro c h1 h2
    simp [dlt]
end Go.Proofs.YthikgdogfkjioaaGreatDoor
namespace Go.Proofs.YthikgdogfkjioaaGreatDoor
open Go.RowKit BigFrame
set_option linter.unusedVariables false
set_option linter.unusedSimpArgs false
set_option maxRecDepth 100000

theorem classes1_any (A A2 : Option Addr) (n c n2 c2 : Nat) (l l2 : List Rg) (w : World) (B B2 : Nat) (hr : RdG w B A l) (hr2 : RdG w B2 A2 l2) (hl : l.length = n) (hl2 : l2.length = n2) (h0 : 0 < n) (h02 : 0 < n2)
    (hb : 0 ≤ fstR l ∧ fstR l ≤ 1114111) (hb2 : 0 ≤ fstR l2 ∧ fstR l2 ≤ 1114111) :
    Calls Tryz.prog 37 #[.slice A n c, .slice A2 n2 c2] w fun e w' => e = .returned (.int .i64 (fstR l - fstR l2)) ∧ ∃ q, w' = w.drewN q := by
  obtain ⟨b, off, rfl, _, hc⟩ := hr.at_ (by omega)
  obtain ⟨b2, off2, rfl, _, hc2⟩ := hr2.at_ (by omega)
  have z1 := (hc 0 (by omega)).1
  have z2 := (hc2 0 (by omega)).1
  have e1 : (nthR l 0).1 = fstR l := by cases l <;> rfl
  have e2 : (nthR l2 0).1 = fstR l2 := by cases l2 <;> rfl
  rw [e1] at z1
  rw [e2] at z2
  simp only [Nat.zero_mul, Nat.add_zero] at z1 z2
  clear hc hc2 e1 e2 hr hr2 hl hl2
  generalize fstR l = x at *
  generalize fstR l2 = y at *
  obtain ⟨p1, p2⟩ := hb
  obtain ⟨p3, p4⟩ := hb2
  go_enter Tryz.func37, Tryz.ntmps37
  go_wp2_with fail
  go_quiet (fail)
  go_wp2_with fail
  go_ret
  exact ⟨rfl, _, rfl⟩
end Go.Proofs.YthikgdogfkjioaaGreatDoor
