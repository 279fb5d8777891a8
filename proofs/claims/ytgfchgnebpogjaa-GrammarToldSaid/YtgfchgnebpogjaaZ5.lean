/- Plain: a list of productions gone through again and again. No program here. · Plain: the lengths of shortest sentences: after as many passes as there are names nothing is new. No program here. · grammar.length. · slices.ContainsFunc of integers with a closure that leaves the world alone. -/
import Derived.Test.YtgfchgnebpogjaaZ1
import Derived.Test.YtgfchgnebpogjaaZ2
import Derived.Deep.QuietTactic
import Derived.BigQuiet
namespace Go.Proofs.Ytgfchgnebpogjaa
set_option linter.unusedVariables false
set_option linter.unusedSimpArgs false

abbrev Pr := Int × List Int × Int

section
variable {σ : Type} (step : Nat → Pr → σ → σ × Bool)

/-- One pass: what it leaves, and whether something was new. -/
def passF : Nat → List Pr → σ → σ × Bool
  | _, [], x => (x, false)
  | i, p :: ps, x => ((passF (i + 1) ps (step i p x).1).1, (step i p x).2 || (passF (i + 1) ps (step i p x).1).2)

theorem passF_app : ∀ (i : Nat) (ps qs : List Pr) (x : σ), passF step i (ps ++ qs) x = ((passF step (i + ps.length) qs (passF step i ps x).1).1, (passF step i ps x).2 || (passF step (i + ps.length) qs (passF step i ps x).1).2)
  | i, [], qs, x => by simp [passF]
  | i, p :: ps, qs, x => by
    rw [List.cons_append, passF, passF_app (i + 1) ps qs, passF, List.length_cons, show i + 1 + ps.length = i + (ps.length + 1) from by omega]
    simp [Bool.or_assoc]
theorem passF_snoc (ps : List Pr) (k : Nat) (p : Pr) (x : σ) (h : ps[k]? = some p) :
    passF step 0 (ps.take (k + 1)) x = ((step k p (passF step 0 (ps.take k) x).1).1, (passF step 0 (ps.take k) x).2 || (step k p (passF step 0 (ps.take k) x).1).2) := by
  obtain ⟨hk, rfl⟩ := List.getElem?_eq_some_iff.1 h
  rw [List.take_succ_eq_append_getElem hk, passF_app, List.length_take, Nat.min_eq_left (by omega)]
  simp [passF]

def rounds (ps : List Pr) : Nat → σ → σ
  | 0, x => x
  | r + 1, x => (passF step 0 ps (rounds ps r x)).1

variable {step}
theorem pass_same (hs : ∀ i p x, (step i p x).2 = false → (step i p x).1 = x) : ∀ (ps : List Pr) (i : Nat) (x : σ), (passF step i ps x).2 = false → (passF step i ps x).1 = x
  | [], i, x, _ => rfl
  | p :: ps, i, x, h => by
    rw [passF] at h ⊢
    simp only [Bool.or_eq_false_iff] at h
    rw [hs i p x h.1] at h ⊢
    exact pass_same hs ps (i + 1) x h.2
theorem pass_fixed (hs : ∀ i p x, (step i p x).2 = false → (step i p x).1 = x) : ∀ (ps : List Pr) (i : Nat) (x : σ), (passF step i ps x).2 = false → ∀ k p, ps[k]? = some p → (step (i + k) p x).2 = false
  | [], i, x, _, k, p, h => by simp at h
  | q :: ps, i, x, h, k, p, hp => by
    rw [passF] at h
    simp only [Bool.or_eq_false_iff] at h
    rw [hs i q x h.1] at h
    cases k with
    | zero => simp at hp; subst hp; exact h.1
    | succ k => rw [show i + (k + 1) = i + 1 + k from by omega]; exact pass_fixed hs ps (i + 1) x h.2 k p (by simpa using hp)
theorem pass_of_fixed : ∀ (ps : List Pr) (i : Nat) (x : σ), (∀ k p, ps[k]? = some p → (step (i + k) p x).2 = false ∧ (step (i + k) p x).1 = x) → passF step i ps x = (x, false)
  | [], i, x, _ => rfl
  | q :: ps, i, x, h => by
    have h0 := h 0 q rfl
    rw [Nat.add_zero] at h0
    rw [passF, h0.1, h0.2, pass_of_fixed ps (i + 1) x (fun k p hp => by rw [show i + 1 + k = i + (k + 1) from by omega]; exact h (k + 1) p (by simpa using hp))]
    rfl
theorem rounds_stay (hs : ∀ i p x, (step i p x).2 = false → (step i p x).1 = x) {ps : List Pr} {r : Nat} {x : σ} (h : (passF step 0 ps (rounds step ps r x)).2 = false) : ∀ m, rounds step ps (r + m) x = rounds step ps r x
  | 0 => rfl
  | m + 1 => by
    rw [← Nat.add_assoc, rounds, rounds_stay hs h m]
    exact pass_same hs ps 0 _ h
theorem rounds_fixed (hs : ∀ i p x, (step i p x).2 = false → (step i p x).1 = x) {ps : List Pr} {r m : Nat} {x : σ} (h : (passF step 0 ps (rounds step ps r x)).2 = false) (hm : r ≤ m) :
    rounds step ps m x = rounds step ps r x ∧ (passF step 0 ps (rounds step ps m x)).2 = false := by
  obtain ⟨d, rfl⟩ : ∃ d, m = r + d := ⟨m - r, by omega⟩
  rw [rounds_stay hs h d]
  exact ⟨rfl, h⟩

/-- What each step keeps, a pass keeps. -/
theorem pass_keeps {Q : σ → Prop} : ∀ (ps : List Pr) (i : Nat) (x : σ), (∀ k p y, ps[k]? = some p → Q y → Q (step (i + k) p y).1) → Q x → Q (passF step i ps x).1
  | [], i, x, _, hx => hx
  | q :: ps, i, x, h, hx => by
    rw [passF]
    exact pass_keeps ps (i + 1) _ (fun k p y hp hy => by rw [show i + 1 + k = i + (k + 1) from by omega]; exact h (k + 1) p y (by simpa using hp) hy) (by have := h 0 q x rfl hx; rwa [Nat.add_zero] at this)
theorem rounds_keep {Q : σ → Prop} {ps : List Pr} (h : ∀ k p y, ps[k]? = some p → Q y → Q (step k p y).1) {x : σ} (hx : Q x) : ∀ r, Q (rounds step ps r x)
  | 0 => hx
  | r + 1 => pass_keeps ps 0 _ (fun k p y hp hy => by rw [Nat.zero_add]; exact h k p y hp hy) (rounds_keep h hx r)

/-- A measure that each news lowers. -/
theorem pass_lowers {Q : σ → Prop} {μ : σ → Nat} (hs : ∀ i p x, (step i p x).2 = false → (step i p x).1 = x) : ∀ (ps : List Pr) (i : Nat) (x : σ), (∀ k p y, ps[k]? = some p → Q y → Q (step (i + k) p y).1 ∧ ((step (i + k) p y).2 = true → μ (step (i + k) p y).1 < μ y)) → Q x →
    μ (passF step i ps x).1 ≤ μ x ∧ ((passF step i ps x).2 = true → μ (passF step i ps x).1 < μ x)
  | [], i, x, _, _ => ⟨Nat.le_refl _, fun h => by simp [passF] at h⟩
  | q :: ps, i, x, h, hx => by
    have h0 := h 0 q x rfl hx
    rw [Nat.add_zero] at h0
    have hr := pass_lowers hs ps (i + 1) _ (fun k p y hp hy => by rw [show i + 1 + k = i + (k + 1) from by omega]; exact h (k + 1) p y (by simpa using hp) hy) h0.1
    rw [passF]
    dsimp only
    cases hb : (step i q x).2
    · rw [hs i q x hb] at hr ⊢
      exact ⟨hr.1, fun hh => hr.2 (by simpa using hh)⟩
    · have := h0.2 hb
      exact ⟨by omega, fun _ => by omega⟩
theorem fix_measure {Q : σ → Prop} {μ : σ → Nat} (hs : ∀ i p x, (step i p x).2 = false → (step i p x).1 = x) {ps : List Pr}
    (h : ∀ k p y, ps[k]? = some p → Q y → Q (step k p y).1 ∧ ((step k p y).2 = true → μ (step k p y).1 < μ y)) {x : σ} (hx : Q x) : (passF step 0 ps (rounds step ps (μ x) x)).2 = false := by
  have hk : ∀ r, Q (rounds step ps r x) := rounds_keep (fun k p y hp hy => (h k p y hp hy).1) hx
  have hl : ∀ r, (passF step 0 ps (rounds step ps r x)).2 = true → μ (passF step 0 ps (rounds step ps r x)).1 < μ (rounds step ps r x) := fun r =>
    (pass_lowers hs ps 0 _ (fun k p y hp hy => by rw [Nat.zero_add]; exact h k p y hp hy) (hk r)).2
  have key : ∀ r, (∃ j, j ≤ r ∧ (passF step 0 ps (rounds step ps j x)).2 = false) ∨ μ (rounds step ps r x) + r ≤ μ x := by
    intro r
    induction r with
    | zero => exact .inr (Nat.le_refl _)
    | succ r ih =>
      rcases ih with ⟨j, hj, hf⟩ | ih
      · exact .inl ⟨j, by omega, hf⟩
      · cases hb : (passF step 0 ps (rounds step ps r x)).2
        · exact .inl ⟨r, by omega, hb⟩
        · have := hl r hb
          exact .inr (by rw [rounds]; omega)
  rcases key (μ x) with ⟨j, hj, hf⟩ | hle
  · exact (rounds_fixed hs hf hj).2
  · cases hb : (passF step 0 ps (rounds step ps (μ x) x)).2
    · rfl
    · have := hl _ hb; omega
end

/-! ### lists with one place turned -/
theorem sum_set {f : Int → Nat} : ∀ (x : List Int) (k : Nat) (v : Int), k < x.length → f v < f (nth x k) → ((x.set k v).map f).sum < (x.map f).sum
  | [], k, v, h, _ => by simp at h
  | a :: x, 0, v, _, hv => by
    have : nth (a :: x) 0 = a := rfl
    rw [this] at hv
    rw [List.set_cons_zero, List.map_cons, List.map_cons, List.sum_cons, List.sum_cons]
    omega
  | a :: x, k + 1, v, h, hv => by
    have : nth (a :: x) (k + 1) = nth x k := by simp [nth]
    rw [this] at hv
    have := sum_set x k v (by simpa using h) hv
    rw [List.set_cons_succ, List.map_cons, List.map_cons, List.sum_cons, List.sum_cons]
    omega
end Go.Proofs.Ytgfchgnebpogjaa
namespace Go.Proofs.Ytgfchgnebpogjaa
set_option linter.unusedVariables false
set_option linter.unusedSimpArgs false

def symL (x : List Int) (s : Int) : Int := if s < 0 then nth x (-1 - s).toNat else 1
def lenF (x : List Int) : Int → List Int → Int
  | n, [] => n
  | n, s :: r => if symL x s < 0 then -1 else lenF x (min (n + symL x s) 1000000) r
def stepS (_ : Nat) (p : Pr) (x : List Int) : List Int × Bool :=
  if lenF x 0 p.2.1 < 0 ∨ (0 ≤ nth x p.1.toNat ∧ nth x p.1.toNat ≤ lenF x 0 p.2.1) then (x, false) else (x.set p.1.toNat (lenF x 0 p.2.1), true)

theorem stepS_same (i : Nat) (p : Pr) (x : List Int) (h : (stepS i p x).2 = false) : (stepS i p x).1 = x := by
  unfold stepS at h ⊢
  split
  · rfl
  · rw [if_neg ‹_›] at h; cases h

def sumS (x : List Int) : List Int → Int
  | [] => 0
  | s :: r => symL x s + sumS x r
theorem lt_ge (a b : Int) : a < b ∨ b ≤ a := by omega
theorem sumS_nonneg {x : List Int} : ∀ (r : List Int), (∀ s ∈ r, 0 ≤ symL x s) → 0 ≤ sumS x r
  | [], _ => by simp [sumS]
  | s :: r, h => by
    have := h s (List.mem_cons_self ..)
    have := sumS_nonneg r (fun t ht => h t (List.mem_cons_of_mem _ ht))
    rw [sumS]; omega
theorem lenF_sum {x : List Int} : ∀ (r : List Int) (n : Int), 0 ≤ n → n ≤ 1000000 → (∀ s ∈ r, 0 ≤ symL x s) → lenF x n r = min (n + sumS x r) 1000000
  | [], n, _, h, _ => by simp [lenF, sumS]; omega
  | s :: r, n, h0, h1, hs => by
    have hs0 := hs s (List.mem_cons_self ..)
    have hr0 := sumS_nonneg r (fun t ht => hs t (List.mem_cons_of_mem _ ht))
    rw [lenF, if_neg (by omega), lenF_sum r _ (by omega) (by omega) (fun t ht => hs t (List.mem_cons_of_mem _ ht)), sumS]
    omega
theorem lenF_neg {x : List Int} : ∀ (r : List Int) (n : Int), (∃ s ∈ r, symL x s < 0) → lenF x n r = -1
  | [], n, ⟨s, hs, _⟩ => by cases hs
  | s :: r, n, ⟨t, ht, h⟩ => by
    rw [lenF]
    by_cases hs : symL x s < 0
    · rw [if_pos hs]
    · rw [if_neg hs]
      refine lenF_neg r _ ?_
      rcases List.mem_cons.1 ht with rfl | ht
      · exact absurd h hs
      · exact ⟨t, ht, h⟩
theorem lenF_pos {x : List Int} {r : List Int} (h : 0 ≤ lenF x 0 r) : ∀ s ∈ r, 0 ≤ symL x s := by
  intro s hs
  rcases lt_ge (symL x s) 0 with h' | h'
  · rw [lenF_neg r 0 ⟨s, hs, h'⟩] at h; omega
  · exact h'
theorem lenF_le {x : List Int} {r : List Int} (h : 0 ≤ lenF x 0 r) : lenF x 0 r ≤ 1000000 := by
  rw [lenF_sum r 0 (by omega) (by omega) (lenF_pos h)]; omega
theorem sumS_mem {x : List Int} : ∀ (r : List Int), (∀ s ∈ r, 0 ≤ symL x s) → ∀ s ∈ r, symL x s ≤ sumS x r
  | [], _, s, hs => by cases hs
  | t :: r, h, s, hs => by
    have h1 := h t (List.mem_cons_self ..)
    have h2 := sumS_nonneg r (fun t ht => h t (List.mem_cons_of_mem _ ht))
    rw [sumS]
    rcases List.mem_cons.1 hs with rfl | hs
    · omega
    · have := sumS_mem r (fun t ht => h t (List.mem_cons_of_mem _ ht)) s hs
      omega
theorem sumS_le {x y : List Int} : ∀ (r : List Int), (∀ s ∈ r, symL y s ≤ symL x s) → sumS y r ≤ sumS x r
  | [], _ => by simp [sumS]
  | t :: r, h => by
    have := h t (List.mem_cons_self ..)
    have := sumS_le r (fun t ht => h t (List.mem_cons_of_mem _ ht))
    rw [sumS, sumS]; omega
theorem sumS_eq {x y : List Int} : ∀ (r : List Int), (∀ s ∈ r, symL y s ≤ symL x s) → sumS x r ≤ sumS y r → ∀ s ∈ r, symL y s = symL x s
  | [], _, _, s, hs => by cases hs
  | t :: r, h, he, s, hs => by
    have h1 := h t (List.mem_cons_self ..)
    have h2 := sumS_le r (fun t ht => h t (List.mem_cons_of_mem _ ht))
    rw [sumS, sumS] at he
    rcases List.mem_cons.1 hs with rfl | hs
    · omega
    · exact sumS_eq r (fun t ht => h t (List.mem_cons_of_mem _ ht)) (by omega) s hs

/-- Productions of a grammar with N names, no right side longer than five. -/
def VP (N : Nat) (ps : List Pr) : Prop := ∀ p ∈ ps, 0 ≤ p.1 ∧ p.1.toNat < N ∧ p.2.1.length ≤ 5 ∧ ∀ s ∈ p.2.1, s < 0 → (-1 - s).toNat < N

/-- y is as x or better, and how much there may be at most. -/
def Imp (x y : List Int) : Prop := ∀ A, 0 ≤ nth x A → 0 ≤ nth y A ∧ nth y A ≤ nth x A
theorem Imp.refl (x : List Int) : Imp x x := fun A h => ⟨h, Int.le_refl _⟩
theorem Imp.trans {x y z : List Int} (h : Imp x y) (k : Imp y z) : Imp x z := fun A hA => by
  have h1 := h A hA
  have h2 := k A h1.1
  exact ⟨h2.1, by omega⟩
theorem step_imp {i : Nat} {p : Pr} {x : List Int} (hp : p.1.toNat < x.length) : Imp x (stepS i p x).1 := by
  unfold stepS
  split
  · exact Imp.refl x
  · rename_i hc
    intro A hA
    rw [nth_set hp]
    split
    · subst A; omega
    · exact ⟨hA, Int.le_refl _⟩
theorem step_len {i : Nat} {p : Pr} {x : List Int} : (stepS i p x).1.length = x.length := by
  unfold stepS; split <;> simp

def rk (v : Int) : Nat := if v < 0 then 1000001 else v.toNat
def mu (x : List Int) : Nat := (x.map rk).sum
theorem step_mu {i : Nat} {p : Pr} {x : List Int} (hp : p.1.toNat < x.length) (h : (stepS i p x).2 = true) : mu (stepS i p x).1 < mu x := by
  unfold stepS at h ⊢
  split
  · rw [if_pos ‹_›] at h; cases h
  · rename_i hc
    refine sum_set _ _ _ hp ?_
    have := lenF_le (x := x) (r := p.2.1) (by omega)
    unfold rk
    split <;> split <;> omega

section
variable (N : Nat) (ps : List Pr)
def x0 : List Int := List.replicate N (-1)
def xs (r : Nat) : List Int := rounds stepS ps r (x0 N)
/-- The end. -/
def xe : List Int := xs N ps (mu (x0 N))
variable {N ps}
theorem xs_len (r : Nat) : (xs N ps r).length = N := rounds_keep (Q := fun x : List Int => x.length = N) (fun k p y hp hy => by rw [step_len]; exact hy) (by simp [x0]) r
theorem xe_fixed (hv : VP N ps) : (passF stepS 0 ps (xe N ps)).2 = false :=
  fix_measure (Q := fun x : List Int => x.length = N) stepS_same (fun k p y hp hy => by
    have := hv p (List.mem_of_getElem? hp)
    exact ⟨by rw [step_len]; exact hy, step_mu (by rw [hy]; exact this.2.1)⟩) (by simp [x0])
theorem xe_step (hv : VP N ps) {p : Pr} (hp : p ∈ ps) : lenF (xe N ps) 0 p.2.1 < 0 ∨ (0 ≤ nth (xe N ps) p.1.toNat ∧ nth (xe N ps) p.1.toNat ≤ lenF (xe N ps) 0 p.2.1) := by
  obtain ⟨k, hk, rfl⟩ := List.getElem_of_mem hp
  have := pass_fixed stepS_same ps 0 _ (xe_fixed hv) k _ (List.getElem?_eq_getElem hk)
  unfold stepS at this
  split at this
  · assumption
  · cases this

theorem pass_imp (hv : VP N ps) {x : List Int} (hx : x.length = N) (qs : List Pr) (i : Nat) (hq : ∀ p ∈ qs, p ∈ ps) : Imp x (passF stepS i qs x).1 ∧ (passF stepS i qs x).1.length = N := by
  induction qs generalizing x i with
  | nil => exact ⟨Imp.refl x, hx⟩
  | cons q qs ih =>
    have h1 := hv q (hq q (List.mem_cons_self ..))
    have h2 := ih (x := (stepS i q x).1) (by rw [step_len]; exact hx) (i + 1) (fun p hp => hq p (List.mem_cons_of_mem _ hp))
    exact ⟨(step_imp (by rw [hx]; exact h1.2.1)).trans h2.1, h2.2⟩
theorem xs_imp (hv : VP N ps) (r : Nat) : ∀ m, Imp (xs N ps r) (xs N ps (r + m))
  | 0 => Imp.refl _
  | m + 1 => (xs_imp hv r m).trans (pass_imp hv (xs_len (r + m)) ps 0 (fun _ h => h)).1
theorem xs_xe (hv : VP N ps) (r : Nat) : Imp (xs N ps r) (xe N ps) := by
  rcases Nat.le_total r (mu (x0 N)) with h | h
  · obtain ⟨d, hd⟩ : ∃ d, mu (x0 N) = r + d := ⟨mu (x0 N) - r, by omega⟩
    unfold xe
    rw [hd]
    exact xs_imp hv r d
  · have := (rounds_fixed stepS_same (xe_fixed hv) h).1
    unfold xe xs
    unfold xs at this
    rw [this]
    exact Imp.refl _

/-! no number is great -/
def cnt (x : List Int) : Nat := (x.filter (fun v => decide (0 ≤ v))).length
theorem cnt_set : ∀ (x : List Int) (k : Nat) (v : Int), k < x.length → 0 ≤ v → cnt (x.set k v) = if nth x k < 0 then cnt x + 1 else cnt x
  | [], k, v, h, _ => by simp at h
  | a :: x, 0, v, _, hv => by
    have : nth (a :: x) 0 = a := rfl
    rw [this]
    unfold cnt
    rw [List.set_cons_zero, List.filter_cons_of_pos (by simpa using hv)]
    by_cases ha : a < 0
    · rw [if_pos ha, List.filter_cons_of_neg (by simp; omega)]; rfl
    · rw [if_neg ha, List.filter_cons_of_pos (by simp; omega)]; rfl
  | a :: x, k + 1, v, h, hv => by
    have e : nth (a :: x) (k + 1) = nth x k := by simp [nth]
    have ih := cnt_set x k v (by simpa using h) hv
    rw [e]
    unfold cnt at ih ⊢
    rw [List.set_cons_succ]
    by_cases ha : 0 ≤ a
    · rw [List.filter_cons_of_pos (by simpa using ha), List.filter_cons_of_pos (by simpa using ha), List.length_cons, List.length_cons, ih]
      split <;> rfl
    · rw [List.filter_cons_of_neg (by simpa using ha), List.filter_cons_of_neg (by simpa using ha), ih]
theorem cnt_le (x : List Int) : cnt x ≤ x.length := List.length_filter_le _ _
def Small (x : List Int) : Prop := ∀ A, nth x A ≤ (5 ^ cnt x : Nat)
theorem sumS_small {x : List Int} {K : Nat} (hK : 1 ≤ K) (hx : ∀ A, nth x A ≤ (K : Int)) : ∀ (r : List Int), sumS x r ≤ ((K * r.length : Nat) : Int)
  | [] => by simp [sumS]
  | s :: r => by
    have := sumS_small hK hx r
    have hs : symL x s ≤ (K : Int) := by unfold symL; split; exact hx _; omega
    rw [sumS, List.length_cons, Nat.mul_succ]
    omega
theorem step_small (hv : VP N ps) {i : Nat} {p : Pr} (hp : p ∈ ps) {x : List Int} (hx : x.length = N) (h : Small x) : Small (stepS i p x).1 := by
  obtain ⟨v1, v2, v3, v4⟩ := hv p hp
  unfold stepS
  split
  · exact h
  · rename_i hc
    have hn : 0 ≤ lenF x 0 p.2.1 := by omega
    have hk : p.1.toNat < x.length := by rw [hx]; exact v2
    have hlen := lenF_sum p.2.1 0 (by omega) (by omega) (lenF_pos hn)
    have hle : lenF x 0 p.2.1 ≤ ((5 ^ cnt x * 5 : Nat) : Int) := by
      have h1 := sumS_small (x := x) (K := 5 ^ cnt x) (Nat.pow_pos (by decide)) h p.2.1
      have h2 : 5 ^ cnt x * p.2.1.length ≤ 5 ^ cnt x * 5 := Nat.mul_le_mul_left _ v3
      omega
    intro A
    rw [nth_set hk, cnt_set x _ _ hk hn]
    by_cases ho : nth x p.1.toNat < 0
    · rw [if_pos ho, Nat.pow_succ]
      split
      · exact hle
      · have := h A; omega
    · rw [if_neg ho]
      split
      · have := h p.1.toNat; omega
      · exact h A
theorem xs_small (hv : VP N ps) (r : Nat) : Small (xs N ps r) := by
  have := rounds_keep (step := stepS) (ps := ps) (Q := fun x : List Int => x.length = N ∧ Small x) (fun k p y hp hy => ⟨by rw [step_len]; exact hy.1, step_small hv (List.mem_of_getElem? hp) hy.1 hy.2⟩) (x := x0 N) ⟨by simp [x0], fun A => by
    have h0 : nth (x0 N) A ≤ 0 := by
      unfold nth x0
      rw [List.getD_eq_getElem?_getD, List.getElem?_replicate]
      split <;> simp
    exact Int.le_trans h0 (Int.natCast_nonneg _)⟩ r
  exact this.2
theorem xe_small (hv : VP N ps) (hN : N ≤ 8) (A : Nat) : nth (xe N ps) A ≤ 390625 := by
  have h := xs_small hv (mu (x0 N)) A
  have hc : cnt (xe N ps) ≤ 8 := Nat.le_trans (cnt_le _) (by unfold xe; rw [xs_len]; exact hN)
  have : 5 ^ cnt (xe N ps) ≤ 5 ^ 8 := Nat.pow_le_pow_right (by decide) hc
  have e : (5 : Nat) ^ 8 = 390625 := by decide
  unfold xe at *
  omega

/-! the end is come to after N passes -/
/-- What is final stays within what is final. -/
theorem sym_final {x y : List Int} (h : Imp x y) {s : Int} (hs : 0 ≤ symL x s) : 0 ≤ symL y s ∧ symL y s ≤ symL x s := by
  unfold symL at hs ⊢
  split
  · rw [if_pos ‹_›] at hs; exact h _ hs
  · exact ⟨by omega, Int.le_refl _⟩

/-- Of names that are not final at x, one has a production of final names. -/
theorem progress (hv : VP N ps) (hN : N ≤ 8) (r : Nat) (hn : ∃ A, A < N ∧ nth (xs N ps r) A ≠ nth (xe N ps) A) :
    ∃ p, p ∈ ps ∧ nth (xs N ps r) p.1.toNat ≠ nth (xe N ps) p.1.toNat ∧ lenF (xe N ps) 0 p.2.1 = nth (xe N ps) p.1.toNat ∧ 0 ≤ nth (xe N ps) p.1.toNat ∧
      ∀ s ∈ p.2.1, s < 0 → nth (xs N ps r) (-1 - s).toNat = nth (xe N ps) (-1 - s).toNat := by
  obtain ⟨A0, hA0, hA0n⟩ := hn
  -- the least of the final numbers that are not there yet
  have hneg0 : ∀ A, nth (xs N ps r) A ≠ nth (xe N ps) A → nth (xe N ps) A < 0 → nth (xs N ps r) A < 0 := by
    intro A hne hlt
    rcases lt_ge (nth (xs N ps r) A) 0 with h | h
    · exact h
    · have := xs_xe hv r A h; omega
  -- all numbers are -1 or not below 0
  have hge : ∀ m A, -1 ≤ nth (xs N ps m) A := by
    intro m A
    have := rounds_keep (step := stepS) (ps := ps) (Q := fun x : List Int => x.length = N ∧ ∀ A, -1 ≤ nth x A) (fun k p y hp hy => by
      obtain ⟨v1, v2, v3, v4⟩ := hv p (List.mem_of_getElem? hp)
      refine ⟨by rw [step_len]; exact hy.1, fun A => ?_⟩
      unfold stepS
      split
      · exact hy.2 A
      · rw [nth_set (by rw [hy.1]; exact v2)]
        split
        · omega
        · exact hy.2 A) (x := x0 N) ⟨by simp [x0], fun A => by
      unfold nth x0
      rw [List.getD_eq_getElem?_getD, List.getElem?_replicate]
      split <;> simp⟩ m
    exact this.2 A
  have hliv : ∀ A, nth (xs N ps r) A ≠ nth (xe N ps) A → 0 ≤ nth (xe N ps) A := by
    intro A hne
    rcases lt_ge (nth (xe N ps) A) 0 with h | h
    · have h1 := hneg0 A hne h
      have h2 := hge r A
      have h3 := hge (mu (x0 N)) A
      unfold xe at hne h
      omega
    · exact h
  obtain ⟨A1, hA1, hA1n, hmin⟩ : ∃ A1, A1 < N ∧ nth (xs N ps r) A1 ≠ nth (xe N ps) A1 ∧ ∀ B, B < N → nth (xs N ps r) B ≠ nth (xe N ps) B → nth (xe N ps) A1 ≤ nth (xe N ps) B := by
    have : ∀ (k : Nat) (A : Nat), A < N → nth (xs N ps r) A ≠ nth (xe N ps) A → (nth (xe N ps) A).toNat ≤ k → ∃ A1, A1 < N ∧ nth (xs N ps r) A1 ≠ nth (xe N ps) A1 ∧ ∀ B, B < N → nth (xs N ps r) B ≠ nth (xe N ps) B → nth (xe N ps) A1 ≤ nth (xe N ps) B := by
      intro k
      induction k with
      | zero =>
        intro A hA hne hk
        exact ⟨A, hA, hne, fun B hB hBn => by have := hliv B hBn; omega⟩
      | succ k ih =>
        intro A hA hne hk
        by_cases hex : ∃ B, B < N ∧ nth (xs N ps r) B ≠ nth (xe N ps) B ∧ nth (xe N ps) B < nth (xe N ps) A
        · obtain ⟨B, hB, hBn, hlt⟩ := hex
          have := hliv B hBn
          exact ih B hB hBn (by omega)
        · exact ⟨A, hA, hne, fun B hB hBn => by
            rcases lt_ge (nth (xe N ps) B) (nth (xe N ps) A) with h | h
            · exact absurd ⟨B, hB, hBn, h⟩ hex
            · exact h⟩
    exact this _ A0 hA0 hA0n (Nat.le_refl _)
  have hmu0 := hliv A1 hA1n
  obtain ⟨m, hmu⟩ : ∃ m, nth (xe N ps) A1 = m := ⟨_, rfl⟩
  rw [hmu] at hmu0 hmin
  have hm6 : m ≤ 390625 := by rw [← hmu]; exact xe_small hv hN A1
  refine Classical.byContradiction fun hno => ?_
  -- no name of that number comes to it, whatever the passes do
  have hinv : ∀ y : List Int, y.length = N → Imp y (xe N ps) → (∀ A, A < N → nth (xs N ps r) A ≠ nth (xe N ps) A → nth (xe N ps) A = m → nth y A ≠ m) → ∀ i p, p ∈ ps → (∀ A, A < N → nth (xs N ps r) A ≠ nth (xe N ps) A → nth (xe N ps) A = m → nth (stepS i p y).1 A ≠ m) := by
    intro y hyl hyi hy i p hp A hA hAn hAm
    obtain ⟨v1, v2, v3, v4⟩ := hv p hp
    unfold stepS
    split
    · exact hy A hA hAn hAm
    · rename_i hc
      rw [nth_set (by rw [hyl]; exact v2)]
      split
      · rename_i hAe
        intro hlen
        have hpos : ∀ s ∈ p.2.1, 0 ≤ symL y s := lenF_pos (by omega)
        have hsum := lenF_sum p.2.1 0 (by omega) (by omega) hpos
        have hpos' : ∀ s ∈ p.2.1, 0 ≤ symL (xe N ps) s := fun s hs => (sym_final hyi (hpos s hs)).1
        have hle' : ∀ s ∈ p.2.1, symL (xe N ps) s ≤ symL y s := fun s hs => (sym_final hyi (hpos s hs)).2
        have hsum' := lenF_sum p.2.1 0 (by omega) (by omega) hpos'
        have hs1 := sumS_le p.2.1 hle'
        have hs0 := sumS_nonneg p.2.1 hpos'
        have hfix := xe_step hv hp
        rw [hAe, hAm] at hfix
        have heq := sumS_eq p.2.1 hle' (by omega)
        apply hno
        refine ⟨p, hp, by rw [hAe]; exact hAn, by rw [hAe, hAm]; omega, by rw [hAe, hAm]; exact hmu0, fun s hs hs0' => ?_⟩
        refine Classical.byContradiction fun hBn => ?_
        have hB := v4 s hs hs0'
        have h1 := hmin _ hB hBn
        have h2 := sumS_mem p.2.1 hpos' s hs
        have h3 := heq s hs
        have e1 : symL (xe N ps) s = nth (xe N ps) (-1 - s).toNat := by unfold symL; rw [if_pos hs0']
        have e2 : symL y s = nth y (-1 - s).toNat := by unfold symL; rw [if_pos hs0']
        have hBm : nth (xe N ps) (-1 - s).toNat = m := by omega
        exact hy _ hB hBn hBm (by omega)
      · exact hy A hA hAn hAm
  have hpass : ∀ (qs : List Pr) (i : Nat) (y : List Int), (∀ p ∈ qs, p ∈ ps) → y.length = N → Imp (passF stepS i qs y).1 (xe N ps) → (∀ A, A < N → nth (xs N ps r) A ≠ nth (xe N ps) A → nth (xe N ps) A = m → nth y A ≠ m) →
      (∀ A, A < N → nth (xs N ps r) A ≠ nth (xe N ps) A → nth (xe N ps) A = m → nth (passF stepS i qs y).1 A ≠ m) := by
    intro qs
    induction qs with
    | nil => intro i y _ _ _ hy; exact hy
    | cons q qs ih =>
      intro i y hq hyl hyi hy
      have hyi' : Imp y (xe N ps) := ((pass_imp hv hyl (q :: qs) i hq).1).trans hyi
      exact ih (i + 1) _ (fun p hp => hq p (List.mem_cons_of_mem _ hp)) (by rw [step_len]; exact hyl) hyi (hinv y hyl hyi' hy i q (hq q (List.mem_cons_self ..)))
  have hall : ∀ d, ∀ A, A < N → nth (xs N ps r) A ≠ nth (xe N ps) A → nth (xe N ps) A = m → nth (xs N ps (r + d)) A ≠ m := by
    intro d
    induction d with
    | zero => intro A hA hAn hAm; rw [← hAm]; exact hAn
    | succ d ih => exact hpass ps 0 _ (fun _ h => h) (xs_len _) (xs_xe hv (r + d + 1)) ih
  rcases Nat.le_total r (mu (x0 N)) with h | h
  · have := hall (mu (x0 N) - r) A1 hA1 hA1n hmu
    rw [show r + (mu (x0 N) - r) = mu (x0 N) from by omega] at this
    exact this hmu
  · have := (rounds_fixed stepS_same (xe_fixed hv) h).1
    apply hA1n
    rw [hmu]
    have e : xs N ps r = xe N ps := by unfold xs; rw [this]; rfl
    rw [e, hmu]

/-- How many names are final. -/
def fin (N : Nat) (ps : List Pr) (r : Nat) : Nat := ((List.range N).filter fun A => decide (nth (xs N ps r) A = nth (xe N ps) A)).length

theorem filter_lt {P Q : Nat → Bool} : ∀ (l : List Nat), (∀ a ∈ l, P a = true → Q a = true) → (∃ a ∈ l, Q a = true ∧ P a = false) → (l.filter P).length < (l.filter Q).length
  | [], _, ⟨a, h, _⟩ => by cases h
  | b :: l, hpq, ⟨a, ha, hq, hp⟩ => by
    have hle : (l.filter P).length ≤ (l.filter Q).length := by
      clear ha hq hp
      have hpq' : ∀ a ∈ l, P a = true → Q a = true := fun a h => hpq a (List.mem_cons_of_mem _ h)
      clear hpq
      induction l with
      | nil => simp
      | cons c l ih =>
        have ih := ih (fun a h => hpq' a (List.mem_cons_of_mem _ h))
        by_cases hc : P c = true
        · rw [List.filter_cons_of_pos hc, List.filter_cons_of_pos (hpq' c (List.mem_cons_self ..) hc)]; simpa using ih
        · rw [List.filter_cons_of_neg hc]
          by_cases hc' : Q c = true
          · rw [List.filter_cons_of_pos hc', List.length_cons]; omega
          · rw [List.filter_cons_of_neg hc']; exact ih
    rcases List.mem_cons.1 ha with rfl | ha
    · rw [List.filter_cons_of_pos hq, List.filter_cons_of_neg (by rw [hp]; simp), List.length_cons]; omega
    · have ih := filter_lt l (fun a h => hpq a (List.mem_cons_of_mem _ h)) ⟨a, ha, hq, hp⟩
      by_cases hc : P b = true
      · rw [List.filter_cons_of_pos hc, List.filter_cons_of_pos (hpq b (List.mem_cons_self ..) hc)]; simpa using ih
      · rw [List.filter_cons_of_neg hc]
        by_cases hc' : Q b = true
        · rw [List.filter_cons_of_pos hc', List.length_cons]; omega
        · rw [List.filter_cons_of_neg hc']; exact ih

theorem final_stays (hv : VP N ps) (hge : ∀ m A, -1 ≤ nth (xs N ps m) A) {r A : Nat} (h : nth (xs N ps r) A = nth (xe N ps) A) : nth (xs N ps (r + 1)) A = nth (xe N ps) A := by
  rcases lt_ge (nth (xe N ps) A) 0 with hn | hn
  · rcases lt_ge (nth (xs N ps (r + 1)) A) 0 with h1 | h1
    · have h2 := hge (r + 1) A
      have h3 := hge (mu (x0 N)) A
      unfold xe at hn ⊢
      omega
    · have := xs_xe hv (r + 1) A h1; omega
  · have h1 := xs_imp hv r 1 A (by rw [h]; exact hn)
    have h2 := xs_xe hv (r + 1) A h1.1
    omega

theorem fin_grows (hv : VP N ps) (hN : N ≤ 8) (r : Nat) (hn : ∃ A, A < N ∧ nth (xs N ps r) A ≠ nth (xe N ps) A) (hge : ∀ m A, -1 ≤ nth (xs N ps m) A) : fin N ps r < fin N ps (r + 1) := by
  obtain ⟨p, hp, h1, h2, h3, h4⟩ := progress hv hN r hn
  obtain ⟨v1, v2, v3, v4⟩ := hv p hp
  unfold fin
  refine filter_lt _ (fun A hA h => ?_) ⟨p.1.toNat, List.mem_range.2 v2, ?_, by simpa using h1⟩
  · simp only [decide_eq_true_eq] at h ⊢
    exact final_stays hv hge h
  · simp only [decide_eq_true_eq]
    obtain ⟨k, hk, rfl⟩ := List.getElem_of_mem hp
    -- the pass up to this production, the step, and the rest
    have hsplit : ps = ps.take k ++ (ps[k] :: ps.drop (k + 1)) := by rw [← List.drop_eq_getElem_cons hk, List.take_append_drop]
    have hy := pass_imp (ps := ps) hv (xs_len (ps := ps) r) (ps.take k) 0 (fun q hq => List.mem_of_mem_take hq)
    generalize hyd : (passF stepS 0 (ps.take k) (xs N ps r)).1 = y at hy
    have hstep : (xs N ps (r + 1)) = (passF stepS (k + 1) (ps.drop (k + 1)) (stepS k ps[k] y).1).1 := by
      show (passF stepS 0 ps (xs N ps r)).1 = _
      have hsp := passF_app stepS 0 (ps.take k) (ps[k] :: ps.drop (k + 1)) (xs N ps r)
      rw [← hsplit, List.length_take, Nat.min_eq_left (by omega), hyd] at hsp
      rw [hsp]
      simp [passF]
    have hrest := pass_imp hv (x := (stepS k ps[k] y).1) (by rw [step_len]; exact hy.2) (ps.drop (k + 1)) (k + 1) (fun q hq => List.mem_of_mem_drop hq)
    rw [← hstep] at hrest
    have hend := xs_xe hv (r + 1)
    have hye : Imp y (xe N ps) := ((step_imp (i := k) (by rw [hy.2]; exact v2)).trans hrest.1).trans hend
    have hpos' : ∀ s ∈ ps[k].2.1, 0 ≤ symL (xe N ps) s := lenF_pos (by omega)
    have hsy : ∀ s ∈ ps[k].2.1, symL y s = symL (xe N ps) s := by
      intro s hs
      by_cases hs0 : s < 0
      · have e0 := hpos' s hs
        have e1 := h4 s hs hs0
        unfold symL at e0 ⊢
        rw [if_pos hs0] at e0
        rw [if_pos hs0, if_pos hs0]
        have e2 := hy.1 (-1 - s).toNat (by rw [e1]; exact e0)
        have e3 := hye (-1 - s).toNat e2.1
        omega
      · unfold symL; rw [if_neg hs0, if_neg hs0]
    have hly : lenF y 0 ps[k].2.1 = nth (xe N ps) ps[k].1.toNat := by
      rw [← h2, lenF_sum _ 0 (by omega) (by omega) (fun s hs => by rw [hsy s hs]; exact hpos' s hs), lenF_sum _ 0 (by omega) (by omega) hpos']
      have : sumS y ps[k].2.1 = sumS (xe N ps) ps[k].2.1 := by
        have a := sumS_le (x := y) (y := xe N ps) ps[k].2.1 (fun s hs => by rw [hsy s hs]; exact Int.le_refl _)
        have b := sumS_le (x := xe N ps) (y := y) ps[k].2.1 (fun s hs => by rw [hsy s hs]; exact Int.le_refl _)
        omega
      rw [this]
    have hst : nth (stepS k ps[k] y).1 ps[k].1.toNat = nth (xe N ps) ps[k].1.toNat := by
      unfold stepS
      split
      · rename_i hc
        rcases hc with hc | hc
        · omega
        · have := hye ps[k].1.toNat hc.1
          show nth y ps[k].1.toNat = _
          omega
      · rw [nth_set (by rw [hy.2]; exact v2), if_pos rfl, hly]
    have h5 := hrest.1 ps[k].1.toNat (by rw [hst]; exact h3)
    have h6 := hend ps[k].1.toNat h5.1
    omega

/-- After as many passes as there are names nothing is new. -/
theorem xs_fixed (hv : VP N ps) (hN : N ≤ 8) : xs N ps N = xe N ps := by
  have hge : ∀ m A, -1 ≤ nth (xs N ps m) A := by
    intro m A
    have := rounds_keep (step := stepS) (ps := ps) (Q := fun x : List Int => x.length = N ∧ ∀ A, -1 ≤ nth x A) (fun k p y hp hy => by
      obtain ⟨v1, v2, v3, v4⟩ := hv p (List.mem_of_getElem? hp)
      refine ⟨by rw [step_len]; exact hy.1, fun A => ?_⟩
      unfold stepS
      split
      · exact hy.2 A
      · rw [nth_set (by rw [hy.1]; exact v2)]
        split
        · omega
        · exact hy.2 A) (x := x0 N) ⟨by simp [x0], fun A => by
      unfold nth x0
      rw [List.getD_eq_getElem?_getD, List.getElem?_replicate]
      split <;> simp⟩ m
    exact this.2 A
  have key : ∀ r, (∀ A, A < N → nth (xs N ps r) A = nth (xe N ps) A) ∨ r ≤ fin N ps r := by
    intro r
    induction r with
    | zero => exact .inr (Nat.zero_le _)
    | succ r ih =>
      by_cases hn : ∃ A, A < N ∧ nth (xs N ps r) A ≠ nth (xe N ps) A
      · rcases ih with ih | ih
        · obtain ⟨A, hA, hne⟩ := hn
          exact absurd (ih A hA) hne
        · have := fin_grows hv hN r hn hge
          exact .inr (by omega)
      · refine .inl fun A hA => final_stays hv hge ?_
        exact Classical.byContradiction fun h => hn ⟨A, hA, h⟩
  have hall : ∀ A, A < N → nth (xs N ps N) A = nth (xe N ps) A := by
    rcases key N with h | h
    · exact h
    · intro A hA
      refine Classical.byContradiction fun hne => ?_
      have hlt : fin N ps N < N := by
        have := filter_lt (P := fun A => decide (nth (xs N ps N) A = nth (xe N ps) A)) (Q := fun _ => true) (List.range N) (fun _ _ _ => rfl) ⟨A, List.mem_range.2 hA, rfl, by simpa using hne⟩
        have hh : ((List.range N).filter (fun _ => true)).length = N := by rw [List.filter_eq_self.2 (fun _ _ => rfl), List.length_range]
        rw [hh] at this
        exact this
      omega
  have l1 : (xs N ps N).length = N := xs_len N
  have l2 : (xe N ps).length = N := xs_len _
  apply List.ext_getElem (by rw [l1, l2])
  intro A h1 h2
  have := hall A (by omega)
  rwa [nth_get h1, nth_get h2] at this
theorem xs_done (hv : VP N ps) (hN : N ≤ 8) : (passF stepS 0 ps (rounds stepS ps N (x0 N))).2 = false := by
  have := xs_fixed hv hN
  unfold xs at this
  rw [this]
  exact xe_fixed hv
end
end Go.Proofs.Ytgfchgnebpogjaa
namespace Go.Proofs.Ytgfchgnebpogjaa
open Go.RowKit
set_option linter.unusedVariables false
set_option linter.unusedSimpArgs false
set_option maxRecDepth 100000

theorem run_min2 (P : Program) (a b m : Int) (h : m = min a b) : ∀ (ts : Array TypeId) (t : TypeId) (w : World), (Builtin.min_ ts t #[.int .i64 a, .int .i64 b]).run P w = .ok (.int .i64 m) w := by
  intro ts t w
  rw [run_min_int2, show (if b < a then b else a) = m from by split <;> omega]
theorem drop_nth {l : List Int} {k : Nat} (h : k < l.length) : l.drop k = nth l k :: l.drop (k + 1) := by
  rw [nth_get h]; exact List.drop_eq_getElem_cons h
theorem mem_nth {l : List Int} {k : Nat} (h : k < l.length) : nth l k ∈ l := by rw [nth_get h]; exact List.getElem_mem h

/-- What the numbers of a list of lengths may be, and which symbols lead into it. -/
def LenOk (x : List Int) (r : List Int) : Prop := (∀ k, -1 ≤ nth x k ∧ nth x k ≤ 1000000) ∧ ∀ s ∈ r, s < 0 → (-1 - s).toNat < x.length

theorem length_any (A A' : Option Addr) (n c n' c' : Nat) (r x : List Int) (w : World) (B : Nat) (h : RdI w B A r) (hl : r.length = n) (hm : n ≤ maxLen) (h' : RdI w B A' x) (hl' : x.length = n') (hm' : n' ≤ maxLen) (hx : LenOk x r) :
    Calls Try.prog 41 #[.slice A n c, .slice A' n' c'] w fun e w' => e = .returned (.int .i64 (lenF x 0 r)) ∧ w = w' := by
  unfold maxLen at hm hm'
  have HL := Lib.hid hl; have HL' := Lib.hid hl'; have HX := Lib.hid hx; have H := Lib.hid h; have H' := Lib.hid h'
  clear hl hl' hx h h'
  go_enter Try.func41, Try.ntmps41
  go_wp2_with fail
  go_loop [5, 11] (fun v i => ∃ k : Nat, ∃ m : Int, k ≤ n ∧ i = .int .i64 k ∧ v = .int .i64 m ∧ 0 ≤ m ∧ m ≤ 1000000 ∧ Hid (lenF x 0 r = lenF x m (r.drop k))) (fun _ i => n - (intOf i).toNat)
  case atStart => exact ⟨0, 0, Nat.zero_le _, rfl, rfl, by omega, by omega, rfl⟩
  case round =>
    obtain ⟨k, m, hk, rfl, rfl, hm0, hm1, HE⟩ := hrel
    by_cases hlt : k < n
    · obtain ⟨b, off, rfl, hb, hc⟩ := H.out.at_ (by rw [HL.out]; omega)
      have z := hc k (by rw [HL.out]; omega)
      have hd := drop_nth (l := r) (k := k) (by rw [HL.out]; omega)
      have hmem := HX.out.2 _ (mem_nth (l := r) (k := k) (by rw [HL.out]; omega))
      generalize nth r k = s at z hd hmem
      have HD := Lib.hid hd; clear hd hc
      by_cases hs : s < 0
      · have d1 : decide (s < 0) = true := decide_eq_true hs
        have ht := hmem hs
        rw [HL'.out] at ht
        obtain ⟨t, ht1⟩ : ∃ t : Nat, t = (-1 - s).toNat := ⟨_, rfl⟩
        rw [← ht1] at ht
        have hts : -1 - s = (t : Int) := by omega
        obtain ⟨b', off', rfl, hb', hc'⟩ := H'.out.at_ (by rw [HL'.out]; omega)
        have z' := hc' t (by rw [HL'.out]; omega)
        have hbd := HX.out.1 t
        have hsym : symL x s = nth x t := by unfold symL; rw [if_pos hs, ← ht1]
        generalize nth x t = v at z' hbd hsym
        have HY := Lib.hid hsym
        clear hc' ht1 hmem hsym
        obtain ⟨hv0, hv1⟩ := hbd
        by_cases hv : v < 0
        · have d2 : decide (v < 0) = true := decide_eq_true hv
          have HF : Hid (lenF x 0 r = -1) := Lib.hid (by rw [HE.out, HD.out]; simp only [lenF]; rw [HY.out, if_pos hv])
          go_wp2
          go_ret
          exact ⟨ret_eq (by rw [HF.out]; rfl), rfl⟩
        · have d2 : decide (v < 0) = false := decide_eq_false hv
          have hmin := run_min2 Try.prog (m + v) 1000000 (min (m + v) 1000000) rfl
          have hq0 : 0 ≤ min (m + v) 1000000 := by omega
          have hq1 : min (m + v) 1000000 ≤ 1000000 := by omega
          have HF : Hid (lenF x 0 r = lenF x (min (m + v) 1000000) (r.drop (k + 1))) := Lib.hid (by rw [HE.out, HD.out]; simp only [lenF]; rw [HY.out, if_neg hv])
          generalize min (m + v) 1000000 = q at *
          go_wp2
          go_round
          case rel => exact ⟨k + 1, q, by omega, by go_num, rfl, hq0, hq1, HF⟩
          case measure => simp [intOf]; omega
      · have d1 : decide (s < 0) = false := decide_eq_false hs
        have hmin := run_min2 Try.prog (m + 1) 1000000 (min (m + 1) 1000000) rfl
        have hq0 : 0 ≤ min (m + 1) 1000000 := by omega
        have hq1 : min (m + 1) 1000000 ≤ 1000000 := by omega
        have HF : Hid (lenF x 0 r = lenF x (min (m + 1) 1000000) (r.drop (k + 1))) := Lib.hid (by
          have hsym : symL x s = 1 := by unfold symL; rw [if_neg hs]
          rw [HE.out, HD.out]; simp only [lenF]; rw [hsym, if_neg (by omega)])
        generalize min (m + 1) 1000000 = q at *
        clear hmem
        go_wp2
        go_round
        case rel => exact ⟨k + 1, q, by omega, by go_num, rfl, hq0, hq1, HF⟩
        case measure => simp [intOf]; omega
    · have HF : Hid (lenF x 0 r = m) := Lib.hid (by rw [HE.out, List.drop_eq_nil_of_le (by rw [HL.out]; omega)]; rfl)
      go_wp2
      go_ret
      exact ⟨ret_eq (by rw [HF.out]; rfl), rfl⟩
end Go.Proofs.Ytgfchgnebpogjaa
namespace Go.Proofs.Ytgfchgnebpogjaa
open Go.RowKit
set_option linter.unusedVariables false
set_option linter.unusedSimpArgs false
set_option maxRecDepth 100000

theorem any_take {f : Int → Bool} {l : List Int} {k : Nat} (h : k < l.length) (ha : (l.take k).any f = false) (hf : f (nth l k) = false) : (l.take (k + 1)).any f = false := by
  rw [List.take_succ_eq_append_getElem h, List.any_append, ha, ← nth_get h]; simp [hf]
theorem any_yes {f : Int → Bool} {l : List Int} {k : Nat} (h : k < l.length) (hf : f (nth l k) = true) : l.any f = true := by
  rw [List.any_eq_true]; exact ⟨nth l k, mem_nth h, hf⟩


theorem index1 (fid : FuncId) (v0 : Nat) (f : Int → Bool) (A : Option Addr) (n c : Nat) (l : List Int) (w : World) (B : Nat) (hrun : ∀ args w, (callFunc fid args).run Try.prog w = .ok (.enter fid args) w)
    (h : RdI w B A l) (hl : l.length = n) (hm : n ≤ maxLen) (hcall : ∀ x ∈ l, Calls Try.prog fid #[.int .i64 x, .pointer (some ⟨v0, 0, none⟩)] w fun e w' => e = .returned (.bool (f x)) ∧ w = w') :
    Calls Try.prog 76 #[.slice A n c, .func (.func fid) #[] #[.pointer (some ⟨v0, 0, none⟩)]] w fun e w' => ∃ i : Int, e = .returned (.int .i64 i) ∧ Hid (decide (0 ≤ i) = l.any f) ∧ w = w' := by
  unfold maxLen at hm
  have Hl := Lib.hid hl; have H := Lib.hid h; have HCALL := Lib.hid hcall; clear hl h hcall
  go_enter Try.func76, Try.ntmps76
  go_wp2_with fail
  go_loop [8] (fun i => ∃ k : Nat, k ≤ n ∧ i = .int .i64 k ∧ Hid ((l.take k).any f = false)) (fun i => n - (intOf i).toNat)
  case atStart => exact ⟨0, Nat.zero_le _, rfl, rfl⟩
  case round =>
    obtain ⟨k, hk, rfl, HE⟩ := hrel
    by_cases hlt : k < n
    · obtain ⟨b, off, rfl, hb, hc⟩ := H.out.at_ (by rw [Hl.out]; omega)
      have c1 := hc k (by rw [Hl.out]; omega)
      have hmem := mem_nth (l := l) (k := k) (by rw [Hl.out]; exact hlt)
      have hcl := HCALL.out _ hmem
      have hy := any_yes (f := f) (l := l) (k := k) (by rw [Hl.out]; exact hlt)
      have ht := any_take (f := f) (l := l) (k := k) (by rw [Hl.out]; exact hlt) HE.out
      clear hc hmem
      generalize nth l k = x at c1 hcl hy ht
      cases hb1 : f x
      · rw [hb1] at hcl
        have HC := Lib.hid hcl; have HT := Lib.hid (ht hb1)
        clear hcl hy ht hb1
        go_wp2_with fail
        refine HC.out.mono ?_
        rintro e w' ⟨rfl, rfl⟩
        go_wp2_with fail
        go_round
        case rel => exact ⟨k + 1, by omega, by go_num, HT⟩
        case measure => simp [intOf]; omega
      · rw [hb1] at hcl
        have HC := Lib.hid hcl; have HY := Lib.hid (hy hb1)
        clear hcl hy ht hb1
        go_wp2_with fail
        refine HC.out.mono ?_
        rintro e w' ⟨rfl, rfl⟩
        go_wp2_with fail
        go_ret
        exact ⟨k, rfl, by show _ = _; rw [HY.out]; simp, rfl⟩
    · have hx : l.any f = false := by have := HE.out; rwa [List.take_of_length_le (by rw [Hl.out]; omega)] at this
      have HX := Lib.hid hx; clear hx
      go_wp2
      go_ret
      exact ⟨-1, rfl, by show _ = _; rw [HX.out]; rfl, rfl⟩

theorem contains1 (fid : FuncId) (v0 : Nat) (f : Int → Bool) (A : Option Addr) (n c : Nat) (l : List Int) (w : World) (B : Nat) (hrun : ∀ args w, (callFunc fid args).run Try.prog w = .ok (.enter fid args) w)
    (h : RdI w B A l) (hl : l.length = n) (hm : n ≤ maxLen) (hcall : ∀ x ∈ l, Calls Try.prog fid #[.int .i64 x, .pointer (some ⟨v0, 0, none⟩)] w fun e w' => e = .returned (.bool (f x)) ∧ w = w') :
    Calls Try.prog 56 #[.slice A n c, .func (.func fid) #[] #[.pointer (some ⟨v0, 0, none⟩)]] w fun e w' => e = .returned (.bool (l.any f)) ∧ w = w' := by
  have HC := Lib.hid (index1 fid v0 f A n c l w B hrun h hl hm hcall)
  clear h hl hm hcall
  go_enter Try.func56, Try.ntmps56
  go_wp2_with fail
  refine HC.out.mono ?_
  rintro e w' ⟨i, rfl, HI, rfl⟩
  go_wp2
  go_ret
  exact ⟨ret_eq (by rw [← HI.out]; rfl), rfl⟩


theorem index2 (fid : FuncId) (v0 v1 : Nat) (f : Int → Bool) (A : Option Addr) (n c : Nat) (l : List Int) (w : World) (B : Nat) (hrun : ∀ args w, (callFunc fid args).run Try.prog w = .ok (.enter fid args) w)
    (h : RdI w B A l) (hl : l.length = n) (hm : n ≤ maxLen) (hcall : ∀ x ∈ l, Calls Try.prog fid #[.int .i64 x, .pointer (some ⟨v0, 0, none⟩), .pointer (some ⟨v1, 0, none⟩)] w fun e w' => e = .returned (.bool (f x)) ∧ w = w') :
    Calls Try.prog 76 #[.slice A n c, .func (.func fid) #[] #[.pointer (some ⟨v0, 0, none⟩), .pointer (some ⟨v1, 0, none⟩)]] w fun e w' => ∃ i : Int, e = .returned (.int .i64 i) ∧ Hid (decide (0 ≤ i) = l.any f) ∧ w = w' := by
  unfold maxLen at hm
  have Hl := Lib.hid hl; have H := Lib.hid h; have HCALL := Lib.hid hcall; clear hl h hcall
  go_enter Try.func76, Try.ntmps76
  go_wp2_with fail
  go_loop [8] (fun i => ∃ k : Nat, k ≤ n ∧ i = .int .i64 k ∧ Hid ((l.take k).any f = false)) (fun i => n - (intOf i).toNat)
  case atStart => exact ⟨0, Nat.zero_le _, rfl, rfl⟩
  case round =>
    obtain ⟨k, hk, rfl, HE⟩ := hrel
    by_cases hlt : k < n
    · obtain ⟨b, off, rfl, hb, hc⟩ := H.out.at_ (by rw [Hl.out]; omega)
      have c1 := hc k (by rw [Hl.out]; omega)
      have hmem := mem_nth (l := l) (k := k) (by rw [Hl.out]; exact hlt)
      have hcl := HCALL.out _ hmem
      have hy := any_yes (f := f) (l := l) (k := k) (by rw [Hl.out]; exact hlt)
      have ht := any_take (f := f) (l := l) (k := k) (by rw [Hl.out]; exact hlt) HE.out
      clear hc hmem
      generalize nth l k = x at c1 hcl hy ht
      cases hb1 : f x
      · rw [hb1] at hcl
        have HC := Lib.hid hcl; have HT := Lib.hid (ht hb1)
        clear hcl hy ht hb1
        go_wp2_with fail
        refine HC.out.mono ?_
        rintro e w' ⟨rfl, rfl⟩
        go_wp2_with fail
        go_round
        case rel => exact ⟨k + 1, by omega, by go_num, HT⟩
        case measure => simp [intOf]; omega
      · rw [hb1] at hcl
        have HC := Lib.hid hcl; have HY := Lib.hid (hy hb1)
        clear hcl hy ht hb1
        go_wp2_with fail
        refine HC.out.mono ?_
        rintro e w' ⟨rfl, rfl⟩
        go_wp2_with fail
        go_ret
        exact ⟨k, rfl, by show _ = _; rw [HY.out]; simp, rfl⟩
    · have hx : l.any f = false := by have := HE.out; rwa [List.take_of_length_le (by rw [Hl.out]; omega)] at this
      have HX := Lib.hid hx; clear hx
      go_wp2
      go_ret
      exact ⟨-1, rfl, by show _ = _; rw [HX.out]; rfl, rfl⟩

theorem contains2 (fid : FuncId) (v0 v1 : Nat) (f : Int → Bool) (A : Option Addr) (n c : Nat) (l : List Int) (w : World) (B : Nat) (hrun : ∀ args w, (callFunc fid args).run Try.prog w = .ok (.enter fid args) w)
    (h : RdI w B A l) (hl : l.length = n) (hm : n ≤ maxLen) (hcall : ∀ x ∈ l, Calls Try.prog fid #[.int .i64 x, .pointer (some ⟨v0, 0, none⟩), .pointer (some ⟨v1, 0, none⟩)] w fun e w' => e = .returned (.bool (f x)) ∧ w = w') :
    Calls Try.prog 56 #[.slice A n c, .func (.func fid) #[] #[.pointer (some ⟨v0, 0, none⟩), .pointer (some ⟨v1, 0, none⟩)]] w fun e w' => e = .returned (.bool (l.any f)) ∧ w = w' := by
  have HC := Lib.hid (index2 fid v0 v1 f A n c l w B hrun h hl hm hcall)
  clear h hl hm hcall
  go_enter Try.func56, Try.ntmps56
  go_wp2_with fail
  refine HC.out.mono ?_
  rintro e w' ⟨i, rfl, HI, rfl⟩
  go_wp2
  go_ret
  exact ⟨ret_eq (by rw [← HI.out]; rfl), rfl⟩
end Go.Proofs.Ytgfchgnebpogjaa
