/- Plain: the cost of turning one list into another, from the end and from the beginning. No program here. -/
namespace Go.Proofs.Ytgfchgnebpogjaa
set_option linter.unusedVariables false

section
variable (put leave : Int → Int)
def edit : List Int → List Int → Int
  | [], [] => 0
  | [], t :: ts => edit [] ts + put t
  | f :: fs, [] => edit fs [] + leave f
  | f :: fs, t :: ts => if f = t then min (min (edit fs (t :: ts) + leave f) (edit (f :: fs) ts + put t)) (edit fs ts) else min (edit fs (t :: ts) + leave f) (edit (f :: fs) ts + put t)
termination_by a b => a.length + b.length

/-- A way to turn one list into another, and its cost. -/
inductive Al : List Int → List Int → Int → Prop
  | nil : Al [] [] 0
  | put (t : Int) {a b : List Int} {c : Int} : Al a b c → Al a (t :: b) (c + put t)
  | leave (f : Int) {a b : List Int} {c : Int} : Al a b c → Al (f :: a) b (c + leave f)
  | same (x : Int) {a b : List Int} {c : Int} : Al a b c → Al (x :: a) (x :: b) c

theorem al_edit : ∀ (n : Nat) (a b : List Int), a.length + b.length ≤ n → Al put leave a b (edit put leave a b) := by
  intro n
  induction n with
  | zero =>
    intro a b h
    obtain rfl : a = [] := List.eq_nil_of_length_eq_zero (by omega)
    obtain rfl : b = [] := List.eq_nil_of_length_eq_zero (by simpa using h)
    rw [edit]; exact .nil
  | succ n ih =>
    intro a b h
    match a, b, h with
    | [], [], _ => rw [edit]; exact .nil
    | [], t :: ts, h => rw [edit]; exact .put t (ih [] ts (by simp at h ⊢; omega))
    | f :: fs, [], h => rw [edit]; exact .leave f (ih fs [] (by simp at h ⊢; omega))
    | f :: fs, t :: ts, h =>
      have h1 := Al.leave (put := put) (leave := leave) f (ih fs (t :: ts) (by simp at h ⊢; omega))
      have h2 := Al.put (put := put) (leave := leave) t (ih (f :: fs) ts (by simp at h ⊢; omega))
      rw [edit]
      by_cases e : f = t
      · subst e
        have h3 := Al.same (put := put) (leave := leave) f (ih fs ts (by simp at h ⊢; omega))
        rw [if_pos rfl]
        rcases Int.le_total (edit put leave fs (f :: ts) + leave f) (edit put leave (f :: fs) ts + put f) with g | g
        · rw [Int.min_eq_left g]
          rcases Int.le_total (edit put leave fs (f :: ts) + leave f) (edit put leave fs ts) with g' | g'
          · rw [Int.min_eq_left g']; exact h1
          · rw [Int.min_eq_right g']; exact h3
        · rw [Int.min_eq_right g]
          rcases Int.le_total (edit put leave (f :: fs) ts + put f) (edit put leave fs ts) with g' | g'
          · rw [Int.min_eq_left g']; exact h2
          · rw [Int.min_eq_right g']; exact h3
      · rw [if_neg e]
        rcases Int.le_total (edit put leave fs (t :: ts) + leave f) (edit put leave (f :: fs) ts + put t) with g | g
        · rw [Int.min_eq_left g]; exact h1
        · rw [Int.min_eq_right g]; exact h2

theorem edit_nil_put (t : Int) (b : List Int) : edit put leave [] (t :: b) = edit put leave [] b + put t := by rw [edit]
theorem edit_le_put (t : Int) : ∀ (a b : List Int), edit put leave a (t :: b) ≤ edit put leave a b + put t
  | [], b => by rw [edit]; omega
  | f :: fs, b => by rw [edit]; split <;> omega
theorem edit_le_leave (f : Int) : ∀ (a b : List Int), edit put leave (f :: a) b ≤ edit put leave a b + leave f
  | a, [] => by rw [edit]; omega
  | a, t :: ts => by rw [edit]; split <;> omega
theorem edit_le_same (x : Int) (a b : List Int) : edit put leave (x :: a) (x :: b) ≤ edit put leave a b := by
  rw [edit, if_pos rfl]; omega

theorem edit_le {a b : List Int} {c : Int} (h : Al put leave a b c) : edit put leave a b ≤ c := by
  induction h with
  | nil => rw [edit]; omega
  | @put t a b c _ ih => have := edit_le_put put leave t a b; omega
  | @leave f a b c _ ih => have := edit_le_leave put leave f a b; omega
  | same x _ ih => exact Int.le_trans (edit_le_same put leave x _ _) ih

theorem Al.app {a b a' b' : List Int} {c c' : Int} (h : Al put leave a b c) (h' : Al put leave a' b' c') : Al put leave (a ++ a') (b ++ b') (c' + c) := by
  induction h with
  | nil => simpa using h'
  | put t _ ih => rw [List.cons_append, ← Int.add_assoc]; exact .put t ih
  | leave f _ ih => rw [List.cons_append, ← Int.add_assoc]; exact .leave f ih
  | same x _ ih => exact .same x ih
theorem Al.rev {a b : List Int} {c : Int} (h : Al put leave a b c) : Al put leave a.reverse b.reverse c := by
  induction h with
  | nil => exact .nil
  | put t _ ih =>
    rw [List.reverse_cons]
    have := ih.app put leave (.put t .nil)
    simpa [Int.add_comm] using this
  | leave f _ ih =>
    rw [List.reverse_cons]
    have := ih.app put leave (.leave f .nil)
    simpa [Int.add_comm] using this
  | same x _ ih =>
    rw [List.reverse_cons, List.reverse_cons]
    have := ih.app put leave (.same x .nil)
    simpa using this
theorem edit_rev (a b : List Int) : edit put leave a.reverse b.reverse = edit put leave a b := by
  have h1 := edit_le put leave ((al_edit put leave _ a b (Nat.le_refl _)).rev put leave)
  have h2 := edit_le put leave ((al_edit put leave _ a.reverse b.reverse (Nat.le_refl _)).rev put leave)
  rw [List.reverse_reverse, List.reverse_reverse] at h2
  omega

theorem edit_bound (hp : ∀ t, 0 ≤ put t ∧ put t ≤ 1000) (hl : ∀ t, 0 ≤ leave t ∧ leave t ≤ 1000) : ∀ (n : Nat) (a b : List Int), a.length + b.length ≤ n → 0 ≤ edit put leave a b ∧ edit put leave a b ≤ 1000 * (a.length + b.length) := by
  intro n
  induction n with
  | zero =>
    intro a b h
    obtain rfl : a = [] := List.eq_nil_of_length_eq_zero (by omega)
    obtain rfl : b = [] := List.eq_nil_of_length_eq_zero (by simpa using h)
    rw [edit]; simp
  | succ n ih =>
    intro a b h
    match a, b, h with
    | [], [], _ => rw [edit]; simp
    | [], t :: ts, h =>
      have := ih [] ts (by simp at h ⊢; omega)
      have := hp t
      rw [edit]; simp at this ⊢; simp at *; omega
    | f :: fs, [], h =>
      have := ih fs [] (by simp at h ⊢; omega)
      have := hl f
      rw [edit]; simp at *; omega
    | f :: fs, t :: ts, h =>
      have h1 := ih fs (t :: ts) (by simp at h ⊢; omega)
      have h2 := ih (f :: fs) ts (by simp at h ⊢; omega)
      have h3 := ih fs ts (by simp at h ⊢; omega)
      have := hl f
      have := hp t
      rw [edit]
      simp at *
      split <;> omega
end
end Go.Proofs.Ytgfchgnebpogjaa
