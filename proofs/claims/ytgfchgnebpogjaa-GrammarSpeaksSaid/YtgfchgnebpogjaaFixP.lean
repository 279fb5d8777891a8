/- Plain: a list of productions gone through again and again. No program here. -/
import Derived.Test.YtgfchgnebpogjaaMem
namespace Go.Proofs.Ytgfchgnebpogjaa
set_option linter.unusedVariables false
set_option linter.unusedSimpArgs false

abbrev Pr := Int × List Int × Int

section
variable {σ : Type} (step : Nat → Pr → σ → σ × Bool)

/-- One pass: what it leaves, and whether something was new. -/
def passF : Nat → List Pr → σ → σ × Bool
  | _, [], x => (x, false)
  | i, p :: ps, x => ((passF (i + 1) ps (step i p x).1).1, (step i p x).2 || (passF (i + 1) ps (step i p x).1).2)

theorem passF_app : ∀ (i : Nat) (ps qs : List Pr) (x : σ), passF step i (ps ++ qs) x = ((passF step (i + ps.length) qs (passF step i ps x).1).1, (passF step i ps x).2 || (passF step (i + ps.length) qs (passF step i ps x).1).2)
  | i, [], qs, x => by simp [passF]
  | i, p :: ps, qs, x => by
    rw [List.cons_append, passF, passF_app (i + 1) ps qs, passF, List.length_cons, show i + 1 + ps.length = i + (ps.length + 1) from by omega]
    simp [Bool.or_assoc]
theorem passF_snoc (ps : List Pr) (k : Nat) (p : Pr) (x : σ) (h : ps[k]? = some p) :
    passF step 0 (ps.take (k + 1)) x = ((step k p (passF step 0 (ps.take k) x).1).1, (passF step 0 (ps.take k) x).2 || (step k p (passF step 0 (ps.take k) x).1).2) := by
  obtain ⟨hk, rfl⟩ := List.getElem?_eq_some_iff.1 h
  rw [List.take_succ_eq_append_getElem hk, passF_app, List.length_take, Nat.min_eq_left (by omega)]
  simp [passF]

def rounds (ps : List Pr) : Nat → σ → σ
  | 0, x => x
  | r + 1, x => (passF step 0 ps (rounds ps r x)).1

variable {step}
theorem pass_same (hs : ∀ i p x, (step i p x).2 = false → (step i p x).1 = x) : ∀ (ps : List Pr) (i : Nat) (x : σ), (passF step i ps x).2 = false → (passF step i ps x).1 = x
  | [], i, x, _ => rfl
  | p :: ps, i, x, h => by
    rw [passF] at h ⊢
    simp only [Bool.or_eq_false_iff] at h
    rw [hs i p x h.1] at h ⊢
    exact pass_same hs ps (i + 1) x h.2
theorem pass_fixed (hs : ∀ i p x, (step i p x).2 = false → (step i p x).1 = x) : ∀ (ps : List Pr) (i : Nat) (x : σ), (passF step i ps x).2 = false → ∀ k p, ps[k]? = some p → (step (i + k) p x).2 = false
  | [], i, x, _, k, p, h => by simp at h
  | q :: ps, i, x, h, k, p, hp => by
    rw [passF] at h
    simp only [Bool.or_eq_false_iff] at h
    rw [hs i q x h.1] at h
    cases k with
    | zero => simp at hp; subst hp; exact h.1
    | succ k => rw [show i + (k + 1) = i + 1 + k from by omega]; exact pass_fixed hs ps (i + 1) x h.2 k p (by simpa using hp)
theorem pass_of_fixed : ∀ (ps : List Pr) (i : Nat) (x : σ), (∀ k p, ps[k]? = some p → (step (i + k) p x).2 = false ∧ (step (i + k) p x).1 = x) → passF step i ps x = (x, false)
  | [], i, x, _ => rfl
  | q :: ps, i, x, h => by
    have h0 := h 0 q rfl
    rw [Nat.add_zero] at h0
    rw [passF, h0.1, h0.2, pass_of_fixed ps (i + 1) x (fun k p hp => by rw [show i + 1 + k = i + (k + 1) from by omega]; exact h (k + 1) p (by simpa using hp))]
    rfl
theorem rounds_stay (hs : ∀ i p x, (step i p x).2 = false → (step i p x).1 = x) {ps : List Pr} {r : Nat} {x : σ} (h : (passF step 0 ps (rounds step ps r x)).2 = false) : ∀ m, rounds step ps (r + m) x = rounds step ps r x
  | 0 => rfl
  | m + 1 => by
    rw [← Nat.add_assoc, rounds, rounds_stay hs h m]
    exact pass_same hs ps 0 _ h
theorem rounds_fixed (hs : ∀ i p x, (step i p x).2 = false → (step i p x).1 = x) {ps : List Pr} {r m : Nat} {x : σ} (h : (passF step 0 ps (rounds step ps r x)).2 = false) (hm : r ≤ m) :
    rounds step ps m x = rounds step ps r x ∧ (passF step 0 ps (rounds step ps m x)).2 = false := by
  obtain ⟨d, rfl⟩ : ∃ d, m = r + d := ⟨m - r, by omega⟩
  rw [rounds_stay hs h d]
  exact ⟨rfl, h⟩

/-- What each step keeps, a pass keeps. -/
theorem pass_keeps {Q : σ → Prop} : ∀ (ps : List Pr) (i : Nat) (x : σ), (∀ k p y, ps[k]? = some p → Q y → Q (step (i + k) p y).1) → Q x → Q (passF step i ps x).1
  | [], i, x, _, hx => hx
  | q :: ps, i, x, h, hx => by
    rw [passF]
    exact pass_keeps ps (i + 1) _ (fun k p y hp hy => by rw [show i + 1 + k = i + (k + 1) from by omega]; exact h (k + 1) p y (by simpa using hp) hy) (by have := h 0 q x rfl hx; rwa [Nat.add_zero] at this)
theorem rounds_keep {Q : σ → Prop} {ps : List Pr} (h : ∀ k p y, ps[k]? = some p → Q y → Q (step k p y).1) {x : σ} (hx : Q x) : ∀ r, Q (rounds step ps r x)
  | 0 => hx
  | r + 1 => pass_keeps ps 0 _ (fun k p y hp hy => by rw [Nat.zero_add]; exact h k p y hp hy) (rounds_keep h hx r)

/-- A measure that each news lowers. -/
theorem pass_lowers {Q : σ → Prop} {μ : σ → Nat} (hs : ∀ i p x, (step i p x).2 = false → (step i p x).1 = x) : ∀ (ps : List Pr) (i : Nat) (x : σ), (∀ k p y, ps[k]? = some p → Q y → Q (step (i + k) p y).1 ∧ ((step (i + k) p y).2 = true → μ (step (i + k) p y).1 < μ y)) → Q x →
    μ (passF step i ps x).1 ≤ μ x ∧ ((passF step i ps x).2 = true → μ (passF step i ps x).1 < μ x)
  | [], i, x, _, _ => ⟨Nat.le_refl _, fun h => by simp [passF] at h⟩
  | q :: ps, i, x, h, hx => by
    have h0 := h 0 q x rfl hx
    rw [Nat.add_zero] at h0
    have hr := pass_lowers hs ps (i + 1) _ (fun k p y hp hy => by rw [show i + 1 + k = i + (k + 1) from by omega]; exact h (k + 1) p y (by simpa using hp) hy) h0.1
    rw [passF]
    dsimp only
    cases hb : (step i q x).2
    · rw [hs i q x hb] at hr ⊢
      exact ⟨hr.1, fun hh => hr.2 (by simpa using hh)⟩
    · have := h0.2 hb
      exact ⟨by omega, fun _ => by omega⟩
theorem fix_measure {Q : σ → Prop} {μ : σ → Nat} (hs : ∀ i p x, (step i p x).2 = false → (step i p x).1 = x) {ps : List Pr}
    (h : ∀ k p y, ps[k]? = some p → Q y → Q (step k p y).1 ∧ ((step k p y).2 = true → μ (step k p y).1 < μ y)) {x : σ} (hx : Q x) : (passF step 0 ps (rounds step ps (μ x) x)).2 = false := by
  have hk : ∀ r, Q (rounds step ps r x) := rounds_keep (fun k p y hp hy => (h k p y hp hy).1) hx
  have hl : ∀ r, (passF step 0 ps (rounds step ps r x)).2 = true → μ (passF step 0 ps (rounds step ps r x)).1 < μ (rounds step ps r x) := fun r =>
    (pass_lowers hs ps 0 _ (fun k p y hp hy => by rw [Nat.zero_add]; exact h k p y hp hy) (hk r)).2
  have key : ∀ r, (∃ j, j ≤ r ∧ (passF step 0 ps (rounds step ps j x)).2 = false) ∨ μ (rounds step ps r x) + r ≤ μ x := by
    intro r
    induction r with
    | zero => exact .inr (Nat.le_refl _)
    | succ r ih =>
      rcases ih with ⟨j, hj, hf⟩ | ih
      · exact .inl ⟨j, by omega, hf⟩
      · cases hb : (passF step 0 ps (rounds step ps r x)).2
        · exact .inl ⟨r, by omega, hb⟩
        · have := hl r hb
          exact .inr (by rw [rounds]; omega)
  rcases key (μ x) with ⟨j, hj, hf⟩ | hle
  · exact (rounds_fixed hs hf hj).2
  · cases hb : (passF step 0 ps (rounds step ps (μ x) x)).2
    · rfl
    · have := hl _ hb; omega
end

/-! ### lists with one place turned -/
theorem sum_set {f : Int → Nat} : ∀ (x : List Int) (k : Nat) (v : Int), k < x.length → f v < f (nth x k) → ((x.set k v).map f).sum < (x.map f).sum
  | [], k, v, h, _ => by simp at h
  | a :: x, 0, v, _, hv => by
    have : nth (a :: x) 0 = a := rfl
    rw [this] at hv
    rw [List.set_cons_zero, List.map_cons, List.map_cons, List.sum_cons, List.sum_cons]
    omega
  | a :: x, k + 1, v, h, hv => by
    have : nth (a :: x) (k + 1) = nth x k := by simp [nth]
    rw [this] at hv
    have := sum_set x k v (by simpa using h) hv
    rw [List.set_cons_succ, List.map_cons, List.map_cons, List.sum_cons, List.sum_cons]
    omega
end Go.Proofs.Ytgfchgnebpogjaa
