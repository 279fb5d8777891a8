/- Plain: the cost of turning one list into another, from the end and from the beginning. No program here. · Plain: the mender: best of a symbol between two places. No program here. -/
import Derived.Test.YtklhjaohnimmnaaDoorQ4
namespace Go.Proofs.YtklhjaohnimmnaaDoor
set_option linter.unusedVariables false

section
variable (put leave : Int → Int)
def edit : List Int → List Int → Int
  | [], [] => 0
  | [], t :: ts => edit [] ts + put t
  | f :: fs, [] => edit fs [] + leave f
  | f :: fs, t :: ts => if f = t then min (min (edit fs (t :: ts) + leave f) (edit (f :: fs) ts + put t)) (edit fs ts) else min (edit fs (t :: ts) + leave f) (edit (f :: fs) ts + put t)
termination_by a b => a.length + b.length

/-- A way to turn one list into another, and its cost. -/
inductive Al : List Int → List Int → Int → Prop
  | nil : Al [] [] 0
  | put (t : Int) {a b : List Int} {c : Int} : Al a b c → Al a (t :: b) (c + put t)
  | leave (f : Int) {a b : List Int} {c : Int} : Al a b c → Al (f :: a) b (c + leave f)
  | same (x : Int) {a b : List Int} {c : Int} : Al a b c → Al (x :: a) (x :: b) c

theorem al_edit : ∀ (n : Nat) (a b : List Int), a.length + b.length ≤ n → Al put leave a b (edit put leave a b) := by
  intro n
  induction n with
  | zero =>
    intro a b h
    obtain rfl : a = [] := List.eq_nil_of_length_eq_zero (by omega)
    obtain rfl : b = [] := List.eq_nil_of_length_eq_zero (by simpa using h)
    rw [edit]; exact .nil
  | succ n ih =>
    intro a b h
    match a, b, h with
    | [], [], _ => rw [edit]; exact .nil
    | [], t :: ts, h => rw [edit]; exact .put t (ih [] ts (by simp at h ⊢; omega))
    | f :: fs, [], h => rw [edit]; exact .leave f (ih fs [] (by simp at h ⊢; omega))
    | f :: fs, t :: ts, h =>
      have h1 := Al.leave (put := put) (leave := leave) f (ih fs (t :: ts) (by simp at h ⊢; omega))
      have h2 := Al.put (put := put) (leave := leave) t (ih (f :: fs) ts (by simp at h ⊢; omega))
      rw [edit]
      by_cases e : f = t
      · subst e
        have h3 := Al.same (put := put) (leave := leave) f (ih fs ts (by simp at h ⊢; omega))
        rw [if_pos rfl]
        rcases Int.le_total (edit put leave fs (f :: ts) + leave f) (edit put leave (f :: fs) ts + put f) with g | g
        · rw [Int.min_eq_left g]
          rcases Int.le_total (edit put leave fs (f :: ts) + leave f) (edit put leave fs ts) with g' | g'
          · rw [Int.min_eq_left g']; exact h1
          · rw [Int.min_eq_right g']; exact h3
        · rw [Int.min_eq_right g]
          rcases Int.le_total (edit put leave (f :: fs) ts + put f) (edit put leave fs ts) with g' | g'
          · rw [Int.min_eq_left g']; exact h2
          · rw [Int.min_eq_right g']; exact h3
      · rw [if_neg e]
        rcases Int.le_total (edit put leave fs (t :: ts) + leave f) (edit put leave (f :: fs) ts + put t) with g | g
        · rw [Int.min_eq_left g]; exact h1
        · rw [Int.min_eq_right g]; exact h2

theorem edit_nil_put (t : Int) (b : List Int) : edit put leave [] (t :: b) = edit put leave [] b + put t := by rw [edit]
theorem edit_le_put (t : Int) : ∀ (a b : List Int), edit put leave a (t :: b) ≤ edit put leave a b + put t
  | [], b => by rw [edit]; omega
  | f :: fs, b => by rw [edit]; split <;> omega
theorem edit_le_leave (f : Int) : ∀ (a b : List Int), edit put leave (f :: a) b ≤ edit put leave a b + leave f
  | a, [] => by rw [edit]; omega
  | a, t :: ts => by rw [edit]; split <;> omega
theorem edit_le_same (x : Int) (a b : List Int) : edit put leave (x :: a) (x :: b) ≤ edit put leave a b := by
  rw [edit, if_pos rfl]; omega

theorem edit_le {a b : List Int} {c : Int} (h : Al put leave a b c) : edit put leave a b ≤ c := by
  induction h with
  | nil => rw [edit]; omega
  | @put t a b c _ ih => have := edit_le_put put leave t a b; omega
  | @leave f a b c _ ih => have := edit_le_leave put leave f a b; omega
  | same x _ ih => exact Int.le_trans (edit_le_same put leave x _ _) ih

theorem Al.app {a b a' b' : List Int} {c c' : Int} (h : Al put leave a b c) (h' : Al put leave a' b' c') : Al put leave (a ++ a') (b ++ b') (c' + c) := by
  induction h with
  | nil => simpa using h'
  | put t _ ih => rw [List.cons_append, ← Int.add_assoc]; exact .put t ih
  | leave f _ ih => rw [List.cons_append, ← Int.add_assoc]; exact .leave f ih
  | same x _ ih => exact .same x ih
theorem Al.rev {a b : List Int} {c : Int} (h : Al put leave a b c) : Al put leave a.reverse b.reverse c := by
  induction h with
  | nil => exact .nil
  | put t _ ih =>
    rw [List.reverse_cons]
    have := ih.app put leave (.put t .nil)
    simpa [Int.add_comm] using this
  | leave f _ ih =>
    rw [List.reverse_cons]
    have := ih.app put leave (.leave f .nil)
    simpa [Int.add_comm] using this
  | same x _ ih =>
    rw [List.reverse_cons, List.reverse_cons]
    have := ih.app put leave (.same x .nil)
    simpa using this
theorem edit_rev (a b : List Int) : edit put leave a.reverse b.reverse = edit put leave a b := by
  have h1 := edit_le put leave ((al_edit put leave _ a b (Nat.le_refl _)).rev put leave)
  have h2 := edit_le put leave ((al_edit put leave _ a.reverse b.reverse (Nat.le_refl _)).rev put leave)
  rw [List.reverse_reverse, List.reverse_reverse] at h2
  omega

theorem edit_bound (hp : ∀ t, 0 ≤ put t ∧ put t ≤ 1000) (hl : ∀ t, 0 ≤ leave t ∧ leave t ≤ 1000) : ∀ (n : Nat) (a b : List Int), a.length + b.length ≤ n → 0 ≤ edit put leave a b ∧ edit put leave a b ≤ 1000 * (a.length + b.length) := by
  intro n
  induction n with
  | zero =>
    intro a b h
    obtain rfl : a = [] := List.eq_nil_of_length_eq_zero (by omega)
    obtain rfl : b = [] := List.eq_nil_of_length_eq_zero (by simpa using h)
    rw [edit]; simp
  | succ n ih =>
    intro a b h
    match a, b, h with
    | [], [], _ => rw [edit]; simp
    | [], t :: ts, h =>
      have := ih [] ts (by simp at h ⊢; omega)
      have := hp t
      rw [edit]; simp at this ⊢; simp at *; omega
    | f :: fs, [], h =>
      have := ih fs [] (by simp at h ⊢; omega)
      have := hl f
      rw [edit]; simp at *; omega
    | f :: fs, t :: ts, h =>
      have h1 := ih fs (t :: ts) (by simp at h ⊢; omega)
      have h2 := ih (f :: fs) ts (by simp at h ⊢; omega)
      have h3 := ih fs ts (by simp at h ⊢; omega)
      have := hl f
      have := hp t
      rw [edit]
      simp at *
      split <;> omega
end
end Go.Proofs.YtklhjaohnimmnaaDoor
namespace Go.Proofs.YtklhjaohnimmnaaDoor
set_option linter.unusedVariables false
set_option linter.unusedSimpArgs false

/-- A best: its cost, how many terminals, the terminals (none, if there are more than 1000). -/
abbrev Bs := Option (Int × Int × List Int)
def farC : Int := 1099511627776
def joinB : Bs → Bs → Bs
  | some (c, n, l), some (d, m, k) => some (min (c + d) farC, min (n + m) farC, if 1000 < min (n + m) farC then [] else l ++ k)
  | _, _ => none
def betB : Bs → Bs → Bool
  | none, _ => false
  | some _, none => true
  | some (c, n, l), some (d, m, k) => if c ≠ d then decide (c < d) else if n ≠ m then decide (n < m) else lexlt l k
/-- The first of the best of some. -/
def pick (b x : Bs) : Bs := if betB x b then x else b
def bestOf (l : List Bs) : Bs := l.foldl pick none

/-! ### the order -/
structure WfT (x : Int × Int × List Int) : Prop where
  s : x.2.1 ≤ 1000 → (x.2.2.length : Int) = x.2.1
  b : 1000 < x.2.1 → x.2.2 = []
/-- x is as good as y. -/
def leT (x y : Int × Int × List Int) : Prop := x.1 < y.1 ∨ (x.1 = y.1 ∧ (x.2.1 < y.2.1 ∨ (x.2.1 = y.2.1 ∧ le x.2.2 y.2.2)))
theorem leT.refl (x : Int × Int × List Int) : leT x x := .inr ⟨rfl, .inr ⟨rfl, le.refl _⟩⟩
theorem leT.trans {x y z : Int × Int × List Int} (h : leT x y) (k : leT y z) : leT x z := by
  rcases h with h | ⟨h1, h | ⟨h2, h3⟩⟩ <;> rcases k with k | ⟨k1, k | ⟨k2, k3⟩⟩
  all_goals first
    | exact .inl (by omega)
    | exact .inr ⟨by omega, .inl (by omega)⟩
    | exact .inr ⟨by omega, .inr ⟨by omega, le.trans h3 k3⟩⟩
theorem lexlt_asymm : ∀ (a b : List Int), lexlt a b = true → lexlt b a = false
  | [], [], h => by simp [lexlt] at h
  | [], _ :: _, _ => rfl
  | _ :: _, [], h => by simp [lexlt] at h
  | a :: x, b :: y, h => by
    simp only [lexlt, Bool.or_eq_true, Bool.and_eq_true, decide_eq_true_eq] at h
    simp only [lexlt, Bool.or_eq_false_iff, Bool.and_eq_false_iff, decide_eq_false_iff_not]
    rcases h with h | ⟨rfl, h⟩
    · exact ⟨by omega, .inl (by omega)⟩
    · exact ⟨by omega, .inr (lexlt_asymm x y h)⟩
theorem wf_len {x y : Int × Int × List Int} (hx : WfT x) (hy : WfT y) (e : x.2.1 = y.2.1) : x.2.2.length = y.2.2.length := by
  by_cases q : x.2.1 ≤ 1000
  · have h1 := hx.s q; have h2 := hy.s (by omega); omega
  · rw [hx.b (by omega), hy.b (by omega)]
theorem bet_false {x y : Int × Int × List Int} (hx : WfT x) (hy : WfT y) (h : betB (some x) (some y) = false) : leT y x := by
  obtain ⟨c, n, l⟩ := x
  obtain ⟨d, m, k⟩ := y
  have h : (if c ≠ d then decide (c < d) else if n ≠ m then decide (n < m) else lexlt l k) = false := h
  by_cases q : c ≠ d
  · rw [if_pos q] at h
    simp at h
    exact .inl (by show d < c; omega)
  · rw [if_neg q] at h
    by_cases q2 : n ≠ m
    · rw [if_pos q2] at h
      simp at h
      exact .inr ⟨by show d = c; omega, .inl (by show m < n; omega)⟩
    · rw [if_neg q2] at h
      exact .inr ⟨by show d = c; omega, .inr ⟨by show m = n; omega, (wf_len hx hy (by show n = m; omega)).symm, h⟩⟩
theorem bet_true {x y : Int × Int × List Int} (hx : WfT x) (hy : WfT y) (h : betB (some x) (some y) = true) : leT x y := by
  obtain ⟨c, n, l⟩ := x
  obtain ⟨d, m, k⟩ := y
  have h : (if c ≠ d then decide (c < d) else if n ≠ m then decide (n < m) else lexlt l k) = true := h
  by_cases q : c ≠ d
  · rw [if_pos q] at h
    simp at h
    exact .inl h
  · rw [if_neg q] at h
    by_cases q2 : n ≠ m
    · rw [if_pos q2] at h
      simp at h
      exact .inr ⟨by show c = d; omega, .inl h⟩
    · rw [if_neg q2] at h
      exact .inr ⟨by show c = d; omega, .inr ⟨by show n = m; omega, wf_len hx hy (by show n = m; omega), lexlt_asymm _ _ h⟩⟩
/-- a is as good as b. -/
def leB (a b : Bs) : Prop := ∀ y, b = some y → ∃ x, a = some x ∧ leT x y
def WfB (b : Bs) : Prop := ∀ x, b = some x → WfT x
theorem leB.refl (a : Bs) : leB a a := fun y e => ⟨y, e, leT.refl y⟩
theorem leB.trans {a b c : Bs} (h : leB a b) (k : leB b c) : leB a c := fun z e => by
  obtain ⟨y, e1, h1⟩ := k z e
  obtain ⟨x, e2, h2⟩ := h y e1
  exact ⟨x, e2, h2.trans h1⟩
theorem leB.none (a : Bs) : leB a none := fun _ e => by cases e
theorem not_bet {a b : Bs} (ha : WfB a) (hb : WfB b) (h : betB a b = false) : leB b a := fun y e => by
  subst e
  cases b with
  | none => simp [betB] at h
  | some x => exact ⟨x, rfl, bet_false (ha _ rfl) (hb _ rfl) h⟩
theorem is_bet {a b : Bs} (ha : WfB a) (hb : WfB b) (h : betB a b = true) : leB a b := fun y e => by
  subst e
  cases a with
  | none => simp [betB] at h
  | some x => exact ⟨x, rfl, bet_true (ha _ rfl) (hb _ rfl) h⟩
theorem pick_or (b x : Bs) : pick b x = b ∨ pick b x = x := by unfold pick; split; exact .inr rfl; exact .inl rfl
theorem WfB.pick {b x : Bs} (hb : WfB b) (hx : WfB x) : WfB (pick b x) := by rcases pick_or b x with e | e <;> rw [e] <;> assumption
theorem pick_l {b x : Bs} (hb : WfB b) (hx : WfB x) : leB (pick b x) b := by
  unfold Go.Proofs.YtklhjaohnimmnaaDoor.pick
  split
  · exact is_bet hx hb (by assumption)
  · exact leB.refl b
theorem pick_r {b x : Bs} (hb : WfB b) (hx : WfB x) : leB (pick b x) x := by
  unfold Go.Proofs.YtklhjaohnimmnaaDoor.pick
  split
  · exact leB.refl x
  · rename_i h
    exact not_bet hx hb (by simpa using h)
theorem wf_none : WfB none := fun _ e => by cases e
theorem best_fold : ∀ (l : List Bs) (b : Bs), WfB b → (∀ x ∈ l, WfB x) → WfB (l.foldl pick b) ∧ leB (l.foldl pick b) b ∧ (∀ x ∈ l, leB (l.foldl pick b) x) ∧ (l.foldl pick b = b ∨ l.foldl pick b ∈ l)
  | [], b, hb, _ => ⟨hb, leB.refl b, (fun x hx => by cases hx), .inl rfl⟩
  | x :: l, b, hb, hl => by
    have hx := hl x (by simp)
    obtain ⟨h1, h2, h3, h4⟩ := best_fold l (pick b x) (hb.pick hx) (fun y hy => hl y (by simp [hy]))
    rw [List.foldl_cons]
    refine ⟨h1, h2.trans (pick_l hb hx), fun y hy => ?_, ?_⟩
    · rcases List.mem_cons.1 hy with rfl | hy
      · exact h2.trans (pick_r hb hx)
      · exact h3 y hy
    · rcases h4 with e | e
      · rw [e]
        rcases pick_or b x with e | e
        · exact .inl e
        · exact .inr (by rw [e]; simp)
      · exact .inr (by simp [e])
theorem bestOf_wf {l : List Bs} (h : ∀ x ∈ l, WfB x) : WfB (bestOf l) := (best_fold l none wf_none h).1
theorem bestOf_le {l : List Bs} (h : ∀ x ∈ l, WfB x) {x : Bs} (hx : x ∈ l) : leB (bestOf l) x := (best_fold l none wf_none h).2.2.1 x hx
theorem bestOf_in {l : List Bs} (h : ∀ x ∈ l, WfB x) : bestOf l = none ∨ bestOf l ∈ l := (best_fold l none wf_none h).2.2.2

/-! ### what a best says -/
/-- It is as good as that cost, those terminals. -/
def Cmp (a : Bs) (K : Int) (s : List Int) : Prop := ∃ x, a = some x ∧ leT x (K, (s.length : Int), s)
theorem Cmp.of_le {a b : Bs} {K : Int} {s : List Int} (h : leB a b) (k : Cmp b K s) : Cmp a K s := by
  obtain ⟨y, e, h1⟩ := k
  obtain ⟨x, e2, h2⟩ := h y e
  exact ⟨x, e2, h2.trans h1⟩
theorem Cmp.join {a b : Bs} {K1 K2 : Int} {s1 s2 : List Int} (h1 : Cmp a K1 s1) (h2 : Cmp b K2 s2) (hK : K1 + K2 < farC) (hl : s1.length + s2.length ≤ 1000) : Cmp (joinB a b) (K1 + K2) (s1 ++ s2) := by
  obtain ⟨⟨c, n, l⟩, rfl, h1⟩ := h1
  obtain ⟨⟨d, m, k⟩, rfl, h2⟩ := h2
  unfold farC at hK
  refine ⟨_, rfl, ?_⟩
  rcases h1 with h1 | ⟨h1, h3⟩ <;> rcases h2 with h2 | ⟨h2, h4⟩ <;> simp only at h1 h2
  · exact .inl (by show min (c + d) farC < K1 + K2; unfold farC; omega)
  · exact .inl (by show min (c + d) farC < K1 + K2; unfold farC; omega)
  · exact .inl (by show min (c + d) farC < K1 + K2; unfold farC; omega)
  · refine .inr ⟨by show min (c + d) farC = K1 + K2; unfold farC; omega, ?_⟩
    rcases h3 with h3 | ⟨h3, h5⟩ <;> rcases h4 with h4 | ⟨h4, h6⟩ <;> simp only at h3 h4
    · exact .inl (by show min (n + m) farC < ((s1 ++ s2).length : Int); unfold farC; rw [List.length_append]; omega)
    · exact .inl (by show min (n + m) farC < ((s1 ++ s2).length : Int); unfold farC; rw [List.length_append]; omega)
    · exact .inl (by show min (n + m) farC < ((s1 ++ s2).length : Int); unfold farC; rw [List.length_append]; omega)
    · refine .inr ⟨by show min (n + m) farC = ((s1 ++ s2).length : Int); unfold farC; rw [List.length_append]; omega, ?_⟩
      show le (if 1000 < min (n + m) farC then [] else l ++ k) (s1 ++ s2)
      rw [if_neg (by unfold farC; omega)]
      exact le.app h5 h6
section
variable (put leave : Int → Int)
/-- What it says is of a sentence of R. -/
def Snd (R : List Int → Prop) (a : List Int) (b : Bs) : Prop := ∀ c n l, b = some (c, n, l) → ∃ s K, R s ∧ Al put leave a s K ∧ 0 ≤ K ∧ c = min K farC ∧ n = min (s.length : Int) farC ∧ l = if 1000 < n then [] else s
variable {put leave}
theorem Snd.wf {R : List Int → Prop} {a : List Int} {b : Bs} (h : Snd put leave R a b) : WfB b := fun ⟨c, n, l⟩ e => by
  obtain ⟨s, K, _, _, _, _, e2, e3⟩ := h c n l e
  unfold farC at e2
  refine ⟨fun q => ?_, fun q => ?_⟩
  · simp only at q ⊢; rw [e3, if_neg (by omega)]; omega
  · simp only at q ⊢; rw [e3, if_pos q]
theorem Snd.none (R : List Int → Prop) (a : List Int) : Snd put leave R a none := fun _ _ _ e => by cases e
theorem Snd.mono {R R' : List Int → Prop} {a : List Int} {b : Bs} (h : Snd put leave R a b) (hR : ∀ s, R s → R' s) : Snd put leave R' a b := fun c n l e => by
  obtain ⟨s, K, h1, h2⟩ := h c n l e
  exact ⟨s, K, hR s h1, h2⟩
theorem Snd.join {R1 R2 : List Int → Prop} {a1 a2 : List Int} {b1 b2 : Bs} (h1 : Snd put leave R1 a1 b1) (h2 : Snd put leave R2 a2 b2) : Snd put leave (fun s => ∃ s1 s2, s = s1 ++ s2 ∧ R1 s1 ∧ R2 s2) (a1 ++ a2) (joinB b1 b2) := fun c n l e => by
  cases b1 with
  | none => cases e
  | some x =>
    cases b2 with
    | none => obtain ⟨_, _, _⟩ := x; cases e
    | some y =>
      obtain ⟨c1, n1, l1⟩ := x
      obtain ⟨c2, n2, l2⟩ := y
      obtain ⟨s1, K1, r1, q1, z1, e1, f1, g1⟩ := h1 _ _ _ rfl
      obtain ⟨s2, K2, r2, q2, z2, e2, f2, g2⟩ := h2 _ _ _ rfl
      simp only [joinB, Option.some.injEq, Prod.mk.injEq] at e
      obtain ⟨e3, e4, e5⟩ := e
      unfold farC at e1 e2 f1 f2 e3 e4
      refine ⟨s1 ++ s2, K2 + K1, ⟨s1, s2, rfl, r1, r2⟩, q1.app put leave q2, by omega, by unfold farC; omega, by unfold farC; rw [List.length_append]; omega, ?_⟩
      rw [← e5, ← e4]
      unfold farC
      by_cases q : 1000 < min (n1 + n2) 1099511627776
      · rw [if_pos q, if_pos q]
      · rw [if_neg q, if_neg q, g1, g2, if_neg (by omega), if_neg (by omega)]
end
end Go.Proofs.YtklhjaohnimmnaaDoor
