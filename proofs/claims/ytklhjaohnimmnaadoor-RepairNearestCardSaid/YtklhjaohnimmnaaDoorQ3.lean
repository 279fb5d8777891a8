/- Plain: the lengths of shortest sentences: after as many passes as there are names nothing is new. No program here. · Plain: shortest sentences: what is derived; two ways to the first of the shortest. No program here. -/
import Derived.Test.YtklhjaohnimmnaaDoorQ1
import Derived.Test.YtklhjaohnimmnaaDoorQ2
namespace Go.Proofs.YtklhjaohnimmnaaDoor
set_option linter.unusedVariables false
set_option linter.unusedSimpArgs false

def symL (x : List Int) (s : Int) : Int := if s < 0 then nth x (-1 - s).toNat else 1
def lenF (x : List Int) : Int → List Int → Int
  | n, [] => n
  | n, s :: r => if symL x s < 0 then -1 else lenF x (min (n + symL x s) 1000000) r
def stepS (_ : Nat) (p : Pr) (x : List Int) : List Int × Bool :=
  if lenF x 0 p.2.1 < 0 ∨ (0 ≤ nth x p.1.toNat ∧ nth x p.1.toNat ≤ lenF x 0 p.2.1) then (x, false) else (x.set p.1.toNat (lenF x 0 p.2.1), true)

theorem stepS_same (i : Nat) (p : Pr) (x : List Int) (h : (stepS i p x).2 = false) : (stepS i p x).1 = x := by
  unfold stepS at h ⊢
  split
  · rfl
  · rw [if_neg ‹_›] at h; cases h

def sumS (x : List Int) : List Int → Int
  | [] => 0
  | s :: r => symL x s + sumS x r
theorem lt_ge (a b : Int) : a < b ∨ b ≤ a := by omega
theorem sumS_nonneg {x : List Int} : ∀ (r : List Int), (∀ s ∈ r, 0 ≤ symL x s) → 0 ≤ sumS x r
  | [], _ => by simp [sumS]
  | s :: r, h => by
    have := h s (List.mem_cons_self ..)
    have := sumS_nonneg r (fun t ht => h t (List.mem_cons_of_mem _ ht))
    rw [sumS]; omega
theorem lenF_sum {x : List Int} : ∀ (r : List Int) (n : Int), 0 ≤ n → n ≤ 1000000 → (∀ s ∈ r, 0 ≤ symL x s) → lenF x n r = min (n + sumS x r) 1000000
  | [], n, _, h, _ => by simp [lenF, sumS]; omega
  | s :: r, n, h0, h1, hs => by
    have hs0 := hs s (List.mem_cons_self ..)
    have hr0 := sumS_nonneg r (fun t ht => hs t (List.mem_cons_of_mem _ ht))
    rw [lenF, if_neg (by omega), lenF_sum r _ (by omega) (by omega) (fun t ht => hs t (List.mem_cons_of_mem _ ht)), sumS]
    omega
theorem lenF_neg {x : List Int} : ∀ (r : List Int) (n : Int), (∃ s ∈ r, symL x s < 0) → lenF x n r = -1
  | [], n, ⟨s, hs, _⟩ => by cases hs
  | s :: r, n, ⟨t, ht, h⟩ => by
    rw [lenF]
    by_cases hs : symL x s < 0
    · rw [if_pos hs]
    · rw [if_neg hs]
      refine lenF_neg r _ ?_
      rcases List.mem_cons.1 ht with rfl | ht
      · exact absurd h hs
      · exact ⟨t, ht, h⟩
theorem lenF_pos {x : List Int} {r : List Int} (h : 0 ≤ lenF x 0 r) : ∀ s ∈ r, 0 ≤ symL x s := by
  intro s hs
  rcases lt_ge (symL x s) 0 with h' | h'
  · rw [lenF_neg r 0 ⟨s, hs, h'⟩] at h; omega
  · exact h'
theorem lenF_le {x : List Int} {r : List Int} (h : 0 ≤ lenF x 0 r) : lenF x 0 r ≤ 1000000 := by
  rw [lenF_sum r 0 (by omega) (by omega) (lenF_pos h)]; omega
theorem sumS_mem {x : List Int} : ∀ (r : List Int), (∀ s ∈ r, 0 ≤ symL x s) → ∀ s ∈ r, symL x s ≤ sumS x r
  | [], _, s, hs => by cases hs
  | t :: r, h, s, hs => by
    have h1 := h t (List.mem_cons_self ..)
    have h2 := sumS_nonneg r (fun t ht => h t (List.mem_cons_of_mem _ ht))
    rw [sumS]
    rcases List.mem_cons.1 hs with rfl | hs
    · omega
    · have := sumS_mem r (fun t ht => h t (List.mem_cons_of_mem _ ht)) s hs
      omega
theorem sumS_le {x y : List Int} : ∀ (r : List Int), (∀ s ∈ r, symL y s ≤ symL x s) → sumS y r ≤ sumS x r
  | [], _ => by simp [sumS]
  | t :: r, h => by
    have := h t (List.mem_cons_self ..)
    have := sumS_le r (fun t ht => h t (List.mem_cons_of_mem _ ht))
    rw [sumS, sumS]; omega
theorem sumS_eq {x y : List Int} : ∀ (r : List Int), (∀ s ∈ r, symL y s ≤ symL x s) → sumS x r ≤ sumS y r → ∀ s ∈ r, symL y s = symL x s
  | [], _, _, s, hs => by cases hs
  | t :: r, h, he, s, hs => by
    have h1 := h t (List.mem_cons_self ..)
    have h2 := sumS_le r (fun t ht => h t (List.mem_cons_of_mem _ ht))
    rw [sumS, sumS] at he
    rcases List.mem_cons.1 hs with rfl | hs
    · omega
    · exact sumS_eq r (fun t ht => h t (List.mem_cons_of_mem _ ht)) (by omega) s hs

/-- Productions of a grammar with N names, no right side longer than five. -/
def VP (N : Nat) (ps : List Pr) : Prop := ∀ p ∈ ps, 0 ≤ p.1 ∧ p.1.toNat < N ∧ p.2.1.length ≤ 5 ∧ ∀ s ∈ p.2.1, s < 0 → (-1 - s).toNat < N

/-- y is as x or better, and how much there may be at most. -/
def Imp (x y : List Int) : Prop := ∀ A, 0 ≤ nth x A → 0 ≤ nth y A ∧ nth y A ≤ nth x A
theorem Imp.refl (x : List Int) : Imp x x := fun A h => ⟨h, Int.le_refl _⟩
theorem Imp.trans {x y z : List Int} (h : Imp x y) (k : Imp y z) : Imp x z := fun A hA => by
  have h1 := h A hA
  have h2 := k A h1.1
  exact ⟨h2.1, by omega⟩
theorem step_imp {i : Nat} {p : Pr} {x : List Int} (hp : p.1.toNat < x.length) : Imp x (stepS i p x).1 := by
  unfold stepS
  split
  · exact Imp.refl x
  · rename_i hc
    intro A hA
    rw [nth_set hp]
    split
    · subst A; omega
    · exact ⟨hA, Int.le_refl _⟩
theorem step_len {i : Nat} {p : Pr} {x : List Int} : (stepS i p x).1.length = x.length := by
  unfold stepS; split <;> simp

def rk (v : Int) : Nat := if v < 0 then 1000001 else v.toNat
def mu (x : List Int) : Nat := (x.map rk).sum
theorem step_mu {i : Nat} {p : Pr} {x : List Int} (hp : p.1.toNat < x.length) (h : (stepS i p x).2 = true) : mu (stepS i p x).1 < mu x := by
  unfold stepS at h ⊢
  split
  · rw [if_pos ‹_›] at h; cases h
  · rename_i hc
    refine sum_set _ _ _ hp ?_
    have := lenF_le (x := x) (r := p.2.1) (by omega)
    unfold rk
    split <;> split <;> omega

section
variable (N : Nat) (ps : List Pr)
def x0 : List Int := List.replicate N (-1)
def xs (r : Nat) : List Int := rounds stepS ps r (x0 N)
/-- The end. -/
def xe : List Int := xs N ps (mu (x0 N))
variable {N ps}
theorem xs_len (r : Nat) : (xs N ps r).length = N := rounds_keep (Q := fun x : List Int => x.length = N) (fun k p y hp hy => by rw [step_len]; exact hy) (by simp [x0]) r
theorem xe_fixed (hv : VP N ps) : (passF stepS 0 ps (xe N ps)).2 = false :=
  fix_measure (Q := fun x : List Int => x.length = N) stepS_same (fun k p y hp hy => by
    have := hv p (List.mem_of_getElem? hp)
    exact ⟨by rw [step_len]; exact hy, step_mu (by rw [hy]; exact this.2.1)⟩) (by simp [x0])
theorem xe_step (hv : VP N ps) {p : Pr} (hp : p ∈ ps) : lenF (xe N ps) 0 p.2.1 < 0 ∨ (0 ≤ nth (xe N ps) p.1.toNat ∧ nth (xe N ps) p.1.toNat ≤ lenF (xe N ps) 0 p.2.1) := by
  obtain ⟨k, hk, rfl⟩ := List.getElem_of_mem hp
  have := pass_fixed stepS_same ps 0 _ (xe_fixed hv) k _ (List.getElem?_eq_getElem hk)
  unfold stepS at this
  split at this
  · assumption
  · cases this

theorem pass_imp (hv : VP N ps) {x : List Int} (hx : x.length = N) (qs : List Pr) (i : Nat) (hq : ∀ p ∈ qs, p ∈ ps) : Imp x (passF stepS i qs x).1 ∧ (passF stepS i qs x).1.length = N := by
  induction qs generalizing x i with
  | nil => exact ⟨Imp.refl x, hx⟩
  | cons q qs ih =>
    have h1 := hv q (hq q (List.mem_cons_self ..))
    have h2 := ih (x := (stepS i q x).1) (by rw [step_len]; exact hx) (i + 1) (fun p hp => hq p (List.mem_cons_of_mem _ hp))
    exact ⟨(step_imp (by rw [hx]; exact h1.2.1)).trans h2.1, h2.2⟩
theorem xs_imp (hv : VP N ps) (r : Nat) : ∀ m, Imp (xs N ps r) (xs N ps (r + m))
  | 0 => Imp.refl _
  | m + 1 => (xs_imp hv r m).trans (pass_imp hv (xs_len (r + m)) ps 0 (fun _ h => h)).1
theorem xs_xe (hv : VP N ps) (r : Nat) : Imp (xs N ps r) (xe N ps) := by
  rcases Nat.le_total r (mu (x0 N)) with h | h
  · obtain ⟨d, hd⟩ : ∃ d, mu (x0 N) = r + d := ⟨mu (x0 N) - r, by omega⟩
    unfold xe
    rw [hd]
    exact xs_imp hv r d
  · have := (rounds_fixed stepS_same (xe_fixed hv) h).1
    unfold xe xs
    unfold xs at this
    rw [this]
    exact Imp.refl _

/-! no number is great -/
def cnt (x : List Int) : Nat := (x.filter (fun v => decide (0 ≤ v))).length
theorem cnt_set : ∀ (x : List Int) (k : Nat) (v : Int), k < x.length → 0 ≤ v → cnt (x.set k v) = if nth x k < 0 then cnt x + 1 else cnt x
  | [], k, v, h, _ => by simp at h
  | a :: x, 0, v, _, hv => by
    have : nth (a :: x) 0 = a := rfl
    rw [this]
    unfold cnt
    rw [List.set_cons_zero, List.filter_cons_of_pos (by simpa using hv)]
    by_cases ha : a < 0
    · rw [if_pos ha, List.filter_cons_of_neg (by simp; omega)]; rfl
    · rw [if_neg ha, List.filter_cons_of_pos (by simp; omega)]; rfl
  | a :: x, k + 1, v, h, hv => by
    have e : nth (a :: x) (k + 1) = nth x k := by simp [nth]
    have ih := cnt_set x k v (by simpa using h) hv
    rw [e]
    unfold cnt at ih ⊢
    rw [List.set_cons_succ]
    by_cases ha : 0 ≤ a
    · rw [List.filter_cons_of_pos (by simpa using ha), List.filter_cons_of_pos (by simpa using ha), List.length_cons, List.length_cons, ih]
      split <;> rfl
    · rw [List.filter_cons_of_neg (by simpa using ha), List.filter_cons_of_neg (by simpa using ha), ih]
theorem cnt_le (x : List Int) : cnt x ≤ x.length := List.length_filter_le _ _
def Small (x : List Int) : Prop := ∀ A, nth x A ≤ (5 ^ cnt x : Nat)
theorem sumS_small {x : List Int} {K : Nat} (hK : 1 ≤ K) (hx : ∀ A, nth x A ≤ (K : Int)) : ∀ (r : List Int), sumS x r ≤ ((K * r.length : Nat) : Int)
  | [] => by simp [sumS]
  | s :: r => by
    have := sumS_small hK hx r
    have hs : symL x s ≤ (K : Int) := by unfold symL; split; exact hx _; omega
    rw [sumS, List.length_cons, Nat.mul_succ]
    omega
theorem step_small (hv : VP N ps) {i : Nat} {p : Pr} (hp : p ∈ ps) {x : List Int} (hx : x.length = N) (h : Small x) : Small (stepS i p x).1 := by
  obtain ⟨v1, v2, v3, v4⟩ := hv p hp
  unfold stepS
  split
  · exact h
  · rename_i hc
    have hn : 0 ≤ lenF x 0 p.2.1 := by omega
    have hk : p.1.toNat < x.length := by rw [hx]; exact v2
    have hlen := lenF_sum p.2.1 0 (by omega) (by omega) (lenF_pos hn)
    have hle : lenF x 0 p.2.1 ≤ ((5 ^ cnt x * 5 : Nat) : Int) := by
      have h1 := sumS_small (x := x) (K := 5 ^ cnt x) (Nat.pow_pos (by decide)) h p.2.1
      have h2 : 5 ^ cnt x * p.2.1.length ≤ 5 ^ cnt x * 5 := Nat.mul_le_mul_left _ v3
      omega
    intro A
    rw [nth_set hk, cnt_set x _ _ hk hn]
    by_cases ho : nth x p.1.toNat < 0
    · rw [if_pos ho, Nat.pow_succ]
      split
      · exact hle
      · have := h A; omega
    · rw [if_neg ho]
      split
      · have := h p.1.toNat; omega
      · exact h A
theorem xs_small (hv : VP N ps) (r : Nat) : Small (xs N ps r) := by
  have := rounds_keep (step := stepS) (ps := ps) (Q := fun x : List Int => x.length = N ∧ Small x) (fun k p y hp hy => ⟨by rw [step_len]; exact hy.1, step_small hv (List.mem_of_getElem? hp) hy.1 hy.2⟩) (x := x0 N) ⟨by simp [x0], fun A => by
    have h0 : nth (x0 N) A ≤ 0 := by
      unfold nth x0
      rw [List.getD_eq_getElem?_getD, List.getElem?_replicate]
      split <;> simp
    exact Int.le_trans h0 (Int.natCast_nonneg _)⟩ r
  exact this.2
theorem xe_small (hv : VP N ps) (hN : N ≤ 8) (A : Nat) : nth (xe N ps) A ≤ 390625 := by
  have h := xs_small hv (mu (x0 N)) A
  have hc : cnt (xe N ps) ≤ 8 := Nat.le_trans (cnt_le _) (by unfold xe; rw [xs_len]; exact hN)
  have : 5 ^ cnt (xe N ps) ≤ 5 ^ 8 := Nat.pow_le_pow_right (by decide) hc
  have e : (5 : Nat) ^ 8 = 390625 := by decide
  unfold xe at *
  omega

/-! the end is come to after N passes -/
/-- What is final stays within what is final. -/
theorem sym_final {x y : List Int} (h : Imp x y) {s : Int} (hs : 0 ≤ symL x s) : 0 ≤ symL y s ∧ symL y s ≤ symL x s := by
  unfold symL at hs ⊢
  split
  · rw [if_pos ‹_›] at hs; exact h _ hs
  · exact ⟨by omega, Int.le_refl _⟩

/-- Of names that are not final at x, one has a production of final names. -/
theorem progress (hv : VP N ps) (hN : N ≤ 8) (r : Nat) (hn : ∃ A, A < N ∧ nth (xs N ps r) A ≠ nth (xe N ps) A) :
    ∃ p, p ∈ ps ∧ nth (xs N ps r) p.1.toNat ≠ nth (xe N ps) p.1.toNat ∧ lenF (xe N ps) 0 p.2.1 = nth (xe N ps) p.1.toNat ∧ 0 ≤ nth (xe N ps) p.1.toNat ∧
      ∀ s ∈ p.2.1, s < 0 → nth (xs N ps r) (-1 - s).toNat = nth (xe N ps) (-1 - s).toNat := by
  obtain ⟨A0, hA0, hA0n⟩ := hn
  -- the least of the final numbers that are not there yet
  have hneg0 : ∀ A, nth (xs N ps r) A ≠ nth (xe N ps) A → nth (xe N ps) A < 0 → nth (xs N ps r) A < 0 := by
    intro A hne hlt
    rcases lt_ge (nth (xs N ps r) A) 0 with h | h
    · exact h
    · have := xs_xe hv r A h; omega
  -- all numbers are -1 or not below 0
  have hge : ∀ m A, -1 ≤ nth (xs N ps m) A := by
    intro m A
    have := rounds_keep (step := stepS) (ps := ps) (Q := fun x : List Int => x.length = N ∧ ∀ A, -1 ≤ nth x A) (fun k p y hp hy => by
      obtain ⟨v1, v2, v3, v4⟩ := hv p (List.mem_of_getElem? hp)
      refine ⟨by rw [step_len]; exact hy.1, fun A => ?_⟩
      unfold stepS
      split
      · exact hy.2 A
      · rw [nth_set (by rw [hy.1]; exact v2)]
        split
        · omega
        · exact hy.2 A) (x := x0 N) ⟨by simp [x0], fun A => by
      unfold nth x0
      rw [List.getD_eq_getElem?_getD, List.getElem?_replicate]
      split <;> simp⟩ m
    exact this.2 A
  have hliv : ∀ A, nth (xs N ps r) A ≠ nth (xe N ps) A → 0 ≤ nth (xe N ps) A := by
    intro A hne
    rcases lt_ge (nth (xe N ps) A) 0 with h | h
    · have h1 := hneg0 A hne h
      have h2 := hge r A
      have h3 := hge (mu (x0 N)) A
      unfold xe at hne h
      omega
    · exact h
  obtain ⟨A1, hA1, hA1n, hmin⟩ : ∃ A1, A1 < N ∧ nth (xs N ps r) A1 ≠ nth (xe N ps) A1 ∧ ∀ B, B < N → nth (xs N ps r) B ≠ nth (xe N ps) B → nth (xe N ps) A1 ≤ nth (xe N ps) B := by
    have : ∀ (k : Nat) (A : Nat), A < N → nth (xs N ps r) A ≠ nth (xe N ps) A → (nth (xe N ps) A).toNat ≤ k → ∃ A1, A1 < N ∧ nth (xs N ps r) A1 ≠ nth (xe N ps) A1 ∧ ∀ B, B < N → nth (xs N ps r) B ≠ nth (xe N ps) B → nth (xe N ps) A1 ≤ nth (xe N ps) B := by
      intro k
      induction k with
      | zero =>
        intro A hA hne hk
        exact ⟨A, hA, hne, fun B hB hBn => by have := hliv B hBn; omega⟩
      | succ k ih =>
        intro A hA hne hk
        by_cases hex : ∃ B, B < N ∧ nth (xs N ps r) B ≠ nth (xe N ps) B ∧ nth (xe N ps) B < nth (xe N ps) A
        · obtain ⟨B, hB, hBn, hlt⟩ := hex
          have := hliv B hBn
          exact ih B hB hBn (by omega)
        · exact ⟨A, hA, hne, fun B hB hBn => by
            rcases lt_ge (nth (xe N ps) B) (nth (xe N ps) A) with h | h
            · exact absurd ⟨B, hB, hBn, h⟩ hex
            · exact h⟩
    exact this _ A0 hA0 hA0n (Nat.le_refl _)
  have hmu0 := hliv A1 hA1n
  obtain ⟨m, hmu⟩ : ∃ m, nth (xe N ps) A1 = m := ⟨_, rfl⟩
  rw [hmu] at hmu0 hmin
  have hm6 : m ≤ 390625 := by rw [← hmu]; exact xe_small hv hN A1
  refine Classical.byContradiction fun hno => ?_
  -- no name of that number comes to it, whatever the passes do
  have hinv : ∀ y : List Int, y.length = N → Imp y (xe N ps) → (∀ A, A < N → nth (xs N ps r) A ≠ nth (xe N ps) A → nth (xe N ps) A = m → nth y A ≠ m) → ∀ i p, p ∈ ps → (∀ A, A < N → nth (xs N ps r) A ≠ nth (xe N ps) A → nth (xe N ps) A = m → nth (stepS i p y).1 A ≠ m) := by
    intro y hyl hyi hy i p hp A hA hAn hAm
    obtain ⟨v1, v2, v3, v4⟩ := hv p hp
    unfold stepS
    split
    · exact hy A hA hAn hAm
    · rename_i hc
      rw [nth_set (by rw [hyl]; exact v2)]
      split
      · rename_i hAe
        intro hlen
        have hpos : ∀ s ∈ p.2.1, 0 ≤ symL y s := lenF_pos (by omega)
        have hsum := lenF_sum p.2.1 0 (by omega) (by omega) hpos
        have hpos' : ∀ s ∈ p.2.1, 0 ≤ symL (xe N ps) s := fun s hs => (sym_final hyi (hpos s hs)).1
        have hle' : ∀ s ∈ p.2.1, symL (xe N ps) s ≤ symL y s := fun s hs => (sym_final hyi (hpos s hs)).2
        have hsum' := lenF_sum p.2.1 0 (by omega) (by omega) hpos'
        have hs1 := sumS_le p.2.1 hle'
        have hs0 := sumS_nonneg p.2.1 hpos'
        have hfix := xe_step hv hp
        rw [hAe, hAm] at hfix
        have heq := sumS_eq p.2.1 hle' (by omega)
        apply hno
        refine ⟨p, hp, by rw [hAe]; exact hAn, by rw [hAe, hAm]; omega, by rw [hAe, hAm]; exact hmu0, fun s hs hs0' => ?_⟩
        refine Classical.byContradiction fun hBn => ?_
        have hB := v4 s hs hs0'
        have h1 := hmin _ hB hBn
        have h2 := sumS_mem p.2.1 hpos' s hs
        have h3 := heq s hs
        have e1 : symL (xe N ps) s = nth (xe N ps) (-1 - s).toNat := by unfold symL; rw [if_pos hs0']
        have e2 : symL y s = nth y (-1 - s).toNat := by unfold symL; rw [if_pos hs0']
        have hBm : nth (xe N ps) (-1 - s).toNat = m := by omega
        exact hy _ hB hBn hBm (by omega)
      · exact hy A hA hAn hAm
  have hpass : ∀ (qs : List Pr) (i : Nat) (y : List Int), (∀ p ∈ qs, p ∈ ps) → y.length = N → Imp (passF stepS i qs y).1 (xe N ps) → (∀ A, A < N → nth (xs N ps r) A ≠ nth (xe N ps) A → nth (xe N ps) A = m → nth y A ≠ m) →
      (∀ A, A < N → nth (xs N ps r) A ≠ nth (xe N ps) A → nth (xe N ps) A = m → nth (passF stepS i qs y).1 A ≠ m) := by
    intro qs
    induction qs with
    | nil => intro i y _ _ _ hy; exact hy
    | cons q qs ih =>
      intro i y hq hyl hyi hy
      have hyi' : Imp y (xe N ps) := ((pass_imp hv hyl (q :: qs) i hq).1).trans hyi
      exact ih (i + 1) _ (fun p hp => hq p (List.mem_cons_of_mem _ hp)) (by rw [step_len]; exact hyl) hyi (hinv y hyl hyi' hy i q (hq q (List.mem_cons_self ..)))
  have hall : ∀ d, ∀ A, A < N → nth (xs N ps r) A ≠ nth (xe N ps) A → nth (xe N ps) A = m → nth (xs N ps (r + d)) A ≠ m := by
    intro d
    induction d with
    | zero => intro A hA hAn hAm; rw [← hAm]; exact hAn
    | succ d ih => exact hpass ps 0 _ (fun _ h => h) (xs_len _) (xs_xe hv (r + d + 1)) ih
  rcases Nat.le_total r (mu (x0 N)) with h | h
  · have := hall (mu (x0 N) - r) A1 hA1 hA1n hmu
    rw [show r + (mu (x0 N) - r) = mu (x0 N) from by omega] at this
    exact this hmu
  · have := (rounds_fixed stepS_same (xe_fixed hv) h).1
    apply hA1n
    rw [hmu]
    have e : xs N ps r = xe N ps := by unfold xs; rw [this]; rfl
    rw [e, hmu]

/-- How many names are final. -/
def fin (N : Nat) (ps : List Pr) (r : Nat) : Nat := ((List.range N).filter fun A => decide (nth (xs N ps r) A = nth (xe N ps) A)).length

theorem filter_lt {P Q : Nat → Bool} : ∀ (l : List Nat), (∀ a ∈ l, P a = true → Q a = true) → (∃ a ∈ l, Q a = true ∧ P a = false) → (l.filter P).length < (l.filter Q).length
  | [], _, ⟨a, h, _⟩ => by cases h
  | b :: l, hpq, ⟨a, ha, hq, hp⟩ => by
    have hle : (l.filter P).length ≤ (l.filter Q).length := by
      clear ha hq hp
      have hpq' : ∀ a ∈ l, P a = true → Q a = true := fun a h => hpq a (List.mem_cons_of_mem _ h)
      clear hpq
      induction l with
      | nil => simp
      | cons c l ih =>
        have ih := ih (fun a h => hpq' a (List.mem_cons_of_mem _ h))
        by_cases hc : P c = true
        · rw [List.filter_cons_of_pos hc, List.filter_cons_of_pos (hpq' c (List.mem_cons_self ..) hc)]; simpa using ih
        · rw [List.filter_cons_of_neg hc]
          by_cases hc' : Q c = true
          · rw [List.filter_cons_of_pos hc', List.length_cons]; omega
          · rw [List.filter_cons_of_neg hc']; exact ih
    rcases List.mem_cons.1 ha with rfl | ha
    · rw [List.filter_cons_of_pos hq, List.filter_cons_of_neg (by rw [hp]; simp), List.length_cons]; omega
    · have ih := filter_lt l (fun a h => hpq a (List.mem_cons_of_mem _ h)) ⟨a, ha, hq, hp⟩
      by_cases hc : P b = true
      · rw [List.filter_cons_of_pos hc, List.filter_cons_of_pos (hpq b (List.mem_cons_self ..) hc)]; simpa using ih
      · rw [List.filter_cons_of_neg hc]
        by_cases hc' : Q b = true
        · rw [List.filter_cons_of_pos hc', List.length_cons]; omega
        · rw [List.filter_cons_of_neg hc']; exact ih

theorem final_stays (hv : VP N ps) (hge : ∀ m A, -1 ≤ nth (xs N ps m) A) {r A : Nat} (h : nth (xs N ps r) A = nth (xe N ps) A) : nth (xs N ps (r + 1)) A = nth (xe N ps) A := by
  rcases lt_ge (nth (xe N ps) A) 0 with hn | hn
  · rcases lt_ge (nth (xs N ps (r + 1)) A) 0 with h1 | h1
    · have h2 := hge (r + 1) A
      have h3 := hge (mu (x0 N)) A
      unfold xe at hn ⊢
      omega
    · have := xs_xe hv (r + 1) A h1; omega
  · have h1 := xs_imp hv r 1 A (by rw [h]; exact hn)
    have h2 := xs_xe hv (r + 1) A h1.1
    omega

theorem fin_grows (hv : VP N ps) (hN : N ≤ 8) (r : Nat) (hn : ∃ A, A < N ∧ nth (xs N ps r) A ≠ nth (xe N ps) A) (hge : ∀ m A, -1 ≤ nth (xs N ps m) A) : fin N ps r < fin N ps (r + 1) := by
  obtain ⟨p, hp, h1, h2, h3, h4⟩ := progress hv hN r hn
  obtain ⟨v1, v2, v3, v4⟩ := hv p hp
  unfold fin
  refine filter_lt _ (fun A hA h => ?_) ⟨p.1.toNat, List.mem_range.2 v2, ?_, by simpa using h1⟩
  · simp only [decide_eq_true_eq] at h ⊢
    exact final_stays hv hge h
  · simp only [decide_eq_true_eq]
    obtain ⟨k, hk, rfl⟩ := List.getElem_of_mem hp
    -- the pass up to this production, the step, and the rest
    have hsplit : ps = ps.take k ++ (ps[k] :: ps.drop (k + 1)) := by rw [← List.drop_eq_getElem_cons hk, List.take_append_drop]
    have hy := pass_imp (ps := ps) hv (xs_len (ps := ps) r) (ps.take k) 0 (fun q hq => List.mem_of_mem_take hq)
    generalize hyd : (passF stepS 0 (ps.take k) (xs N ps r)).1 = y at hy
    have hstep : (xs N ps (r + 1)) = (passF stepS (k + 1) (ps.drop (k + 1)) (stepS k ps[k] y).1).1 := by
      show (passF stepS 0 ps (xs N ps r)).1 = _
      have hsp := passF_app stepS 0 (ps.take k) (ps[k] :: ps.drop (k + 1)) (xs N ps r)
      rw [← hsplit, List.length_take, Nat.min_eq_left (by omega), hyd] at hsp
      rw [hsp]
      simp [passF]
    have hrest := pass_imp hv (x := (stepS k ps[k] y).1) (by rw [step_len]; exact hy.2) (ps.drop (k + 1)) (k + 1) (fun q hq => List.mem_of_mem_drop hq)
    rw [← hstep] at hrest
    have hend := xs_xe hv (r + 1)
    have hye : Imp y (xe N ps) := ((step_imp (i := k) (by rw [hy.2]; exact v2)).trans hrest.1).trans hend
    have hpos' : ∀ s ∈ ps[k].2.1, 0 ≤ symL (xe N ps) s := lenF_pos (by omega)
    have hsy : ∀ s ∈ ps[k].2.1, symL y s = symL (xe N ps) s := by
      intro s hs
      by_cases hs0 : s < 0
      · have e0 := hpos' s hs
        have e1 := h4 s hs hs0
        unfold symL at e0 ⊢
        rw [if_pos hs0] at e0
        rw [if_pos hs0, if_pos hs0]
        have e2 := hy.1 (-1 - s).toNat (by rw [e1]; exact e0)
        have e3 := hye (-1 - s).toNat e2.1
        omega
      · unfold symL; rw [if_neg hs0, if_neg hs0]
    have hly : lenF y 0 ps[k].2.1 = nth (xe N ps) ps[k].1.toNat := by
      rw [← h2, lenF_sum _ 0 (by omega) (by omega) (fun s hs => by rw [hsy s hs]; exact hpos' s hs), lenF_sum _ 0 (by omega) (by omega) hpos']
      have : sumS y ps[k].2.1 = sumS (xe N ps) ps[k].2.1 := by
        have a := sumS_le (x := y) (y := xe N ps) ps[k].2.1 (fun s hs => by rw [hsy s hs]; exact Int.le_refl _)
        have b := sumS_le (x := xe N ps) (y := y) ps[k].2.1 (fun s hs => by rw [hsy s hs]; exact Int.le_refl _)
        omega
      rw [this]
    have hst : nth (stepS k ps[k] y).1 ps[k].1.toNat = nth (xe N ps) ps[k].1.toNat := by
      unfold stepS
      split
      · rename_i hc
        rcases hc with hc | hc
        · omega
        · have := hye ps[k].1.toNat hc.1
          show nth y ps[k].1.toNat = _
          omega
      · rw [nth_set (by rw [hy.2]; exact v2), if_pos rfl, hly]
    have h5 := hrest.1 ps[k].1.toNat (by rw [hst]; exact h3)
    have h6 := hend ps[k].1.toNat h5.1
    omega

/-- After as many passes as there are names nothing is new. -/
theorem xs_fixed (hv : VP N ps) (hN : N ≤ 8) : xs N ps N = xe N ps := by
  have hge : ∀ m A, -1 ≤ nth (xs N ps m) A := by
    intro m A
    have := rounds_keep (step := stepS) (ps := ps) (Q := fun x : List Int => x.length = N ∧ ∀ A, -1 ≤ nth x A) (fun k p y hp hy => by
      obtain ⟨v1, v2, v3, v4⟩ := hv p (List.mem_of_getElem? hp)
      refine ⟨by rw [step_len]; exact hy.1, fun A => ?_⟩
      unfold stepS
      split
      · exact hy.2 A
      · rw [nth_set (by rw [hy.1]; exact v2)]
        split
        · omega
        · exact hy.2 A) (x := x0 N) ⟨by simp [x0], fun A => by
      unfold nth x0
      rw [List.getD_eq_getElem?_getD, List.getElem?_replicate]
      split <;> simp⟩ m
    exact this.2 A
  have key : ∀ r, (∀ A, A < N → nth (xs N ps r) A = nth (xe N ps) A) ∨ r ≤ fin N ps r := by
    intro r
    induction r with
    | zero => exact .inr (Nat.zero_le _)
    | succ r ih =>
      by_cases hn : ∃ A, A < N ∧ nth (xs N ps r) A ≠ nth (xe N ps) A
      · rcases ih with ih | ih
        · obtain ⟨A, hA, hne⟩ := hn
          exact absurd (ih A hA) hne
        · have := fin_grows hv hN r hn hge
          exact .inr (by omega)
      · refine .inl fun A hA => final_stays hv hge ?_
        exact Classical.byContradiction fun h => hn ⟨A, hA, h⟩
  have hall : ∀ A, A < N → nth (xs N ps N) A = nth (xe N ps) A := by
    rcases key N with h | h
    · exact h
    · intro A hA
      refine Classical.byContradiction fun hne => ?_
      have hlt : fin N ps N < N := by
        have := filter_lt (P := fun A => decide (nth (xs N ps N) A = nth (xe N ps) A)) (Q := fun _ => true) (List.range N) (fun _ _ _ => rfl) ⟨A, List.mem_range.2 hA, rfl, by simpa using hne⟩
        have hh : ((List.range N).filter (fun _ => true)).length = N := by rw [List.filter_eq_self.2 (fun _ _ => rfl), List.length_range]
        rw [hh] at this
        exact this
      omega
  have l1 : (xs N ps N).length = N := xs_len N
  have l2 : (xe N ps).length = N := xs_len _
  apply List.ext_getElem (by rw [l1, l2])
  intro A h1 h2
  have := hall A (by omega)
  rwa [nth_get h1, nth_get h2] at this
theorem xs_done (hv : VP N ps) (hN : N ≤ 8) : (passF stepS 0 ps (rounds stepS ps N (x0 N))).2 = false := by
  have := xs_fixed hv hN
  unfold xs at this
  rw [this]
  exact xe_fixed hv
end
end Go.Proofs.YtklhjaohnimmnaaDoor
namespace Go.Proofs.YtklhjaohnimmnaaDoor
set_option linter.unusedVariables false
set_option linter.unusedSimpArgs false

/-- a stands ahead of b: the first place that is not the same decides. -/
def lexlt : List Int → List Int → Bool
  | [], [] => false
  | [], _ :: _ => true
  | _ :: _, [] => false
  | a :: x, b :: y => decide (a < b) || (decide (a = b) && lexlt x y)
def earl (a b : List Int) : Bool := if a.length = b.length then lexlt a b else decide (a.length < b.length)

theorem lexlt_tri : ∀ (a b : List Int), a.length = b.length → lexlt a b = false → lexlt b a = false → a = b
  | [], [], _, _, _ => rfl
  | [], _ :: _, h, _, _ => by simp at h
  | _ :: _, [], h, _, _ => by simp at h
  | a :: x, b :: y, h, h1, h2 => by
    simp only [lexlt, Bool.or_eq_false_iff, Bool.and_eq_false_iff, decide_eq_false_iff_not] at h1 h2
    have e : a = b := by omega
    subst e
    have := lexlt_tri x y (by simpa using h) (by rcases h1.2 with h | h; exact absurd rfl h; exact h) (by rcases h2.2 with h | h; exact absurd rfl h; exact h)
    rw [this]
theorem lexlt_irrefl : ∀ (a : List Int), lexlt a a = false
  | [] => rfl
  | a :: x => by simp [lexlt, lexlt_irrefl x]
theorem lexlt_trans' : ∀ (a b c : List Int), a.length = b.length → b.length = c.length → lexlt c b = false → lexlt b a = false → lexlt c a = false
  | [], [], [], _, _, _, _ => rfl
  | [], _ :: _, _, h, _, _, _ => by simp at h
  | _ :: _, [], _, h, _, _, _ => by simp at h
  | _, [], _ :: _, _, h, _, _ => by simp at h
  | _, _ :: _, [], _, h, _, _ => by simp at h
  | a :: x, b :: y, c :: z, h1, h2, h3, h4 => by
    simp only [lexlt, Bool.or_eq_false_iff, Bool.and_eq_false_iff, decide_eq_false_iff_not] at h3 h4 ⊢
    refine ⟨by omega, ?_⟩
    by_cases e : c = a
    · right
      have e1 : c = b := by omega
      have e2 : b = a := by omega
      exact lexlt_trans' x y z (by simpa using h1) (by simpa using h2) (by rcases h3.2 with h | h; exact absurd e1 h; exact h) (by rcases h4.2 with h | h; exact absurd e2 h; exact h)
    · exact .inl e
/-- b is not behind a: as long, and not ahead the other way round. -/
def le (b a : List Int) : Prop := b.length = a.length ∧ lexlt a b = false
theorem le.refl (a : List Int) : le a a := ⟨rfl, lexlt_irrefl a⟩
theorem le.trans {a b c : List Int} (h : le a b) (k : le b c) : le a c := ⟨h.1.trans k.1, lexlt_trans' a b c h.1 k.1 k.2 h.2⟩
theorem le.cons (s : Int) {a b : List Int} (h : le a b) : le (s :: a) (s :: b) := ⟨by simp [h.1], by simp [lexlt, h.2]⟩
theorem le.app : ∀ {a b c d : List Int}, le a b → le c d → le (a ++ c) (b ++ d)
  | [], [], _, _, _, k => k
  | [], _ :: _, _, _, h, _ => by have := h.1; simp at this
  | _ :: _, [], _, _, h, _ => by have := h.1; simp at this
  | a :: x, b :: y, c, d, h, k => by
    have hl : x.length = y.length := by have := h.1; simpa using this
    have h2 := h.2
    simp only [lexlt, Bool.or_eq_false_iff, Bool.and_eq_false_iff, decide_eq_false_iff_not] at h2
    refine ⟨by simp [hl, k.1], ?_⟩
    simp only [List.cons_append, lexlt, Bool.or_eq_false_iff, Bool.and_eq_false_iff, decide_eq_false_iff_not]
    refine ⟨h2.1, ?_⟩
    by_cases e : b = a
    · right
      exact (le.app (a := x) (b := y) ⟨hl, by rcases h2.2 with h | h; exact absurd e h; exact h⟩ k).2
    · exact .inl e

/-! ### what is derived -/
section
variable (ps : List Pr)
/-- The pieces of a right side, each of R. -/
def Cat (R : Nat → List Int → Prop) : List Int → List Int → Prop
  | [], l => l = []
  | s :: r, l => ∃ a b, l = a ++ b ∧ (if s < 0 then R (-1 - s).toNat a else a = [s]) ∧ Cat R r b
theorem Cat.mono {R R' : Nat → List Int → Prop} (h : ∀ X a, R X a → R' X a) : ∀ (r l : List Int), Cat R r l → Cat R' r l
  | [], _, hc => hc
  | s :: r, l, ⟨a, b, e, h1, h2⟩ => by
    refine ⟨a, b, e, ?_, Cat.mono h r b h2⟩
    by_cases hs : s < 0
    · rw [if_pos hs] at h1 ⊢; exact h _ _ h1
    · rw [if_neg hs] at h1 ⊢; exact h1
/-- By a tree of at most that height. -/
def DerH : Nat → Nat → List Int → Prop
  | 0, _, _ => False
  | h + 1, X, l => ∃ p ∈ ps, p.1.toNat = X ∧ Cat (DerH h) p.2.1 l
def Der (X : Nat) (l : List Int) : Prop := ∃ h, DerH ps h X l
theorem DerH.up : ∀ {h : Nat} {X : Nat} {l : List Int}, DerH ps h X l → DerH ps (h + 1) X l
  | 0, _, _, hd => hd.elim
  | h + 1, _, _, ⟨p, hp, e, hc⟩ => ⟨p, hp, e, Cat.mono (fun X a => DerH.up (h := h)) _ _ hc⟩
theorem DerH.mono {h k : Nat} (hk : h ≤ k) {X : Nat} {l : List Int} (hd : DerH ps h X l) : DerH ps k X l := by
  induction k with
  | zero =>
    have e : h = 0 := by omega
    rw [e] at hd; exact hd
  | succ k ih =>
    by_cases e : h = k + 1
    · subst e; exact hd
    · exact (ih (by omega)).up
theorem Der.cat : ∀ {r l : List Int}, Cat (Der ps) r l → ∃ h, Cat (DerH ps h) r l
  | [], l, h => ⟨0, h⟩
  | s :: r, l, ⟨a, b, e, h1, h2⟩ => by
    obtain ⟨k, hk⟩ := Der.cat h2
    by_cases hs : s < 0
    · rw [if_pos hs] at h1
      obtain ⟨h, hh⟩ := h1
      exact ⟨max h k, a, b, e, by rw [if_pos hs]; exact hh.mono _ (by omega), Cat.mono (fun X a q => q.mono _ (by omega)) _ _ hk⟩
    · rw [if_neg hs] at h1
      exact ⟨k, a, b, e, by rw [if_neg hs]; exact h1, hk⟩
theorem Der.mk {p : Pr} (hp : p ∈ ps) {l : List Int} (h : Cat (Der ps) p.2.1 l) : Der ps p.1.toNat l := by
  obtain ⟨k, hk⟩ := Der.cat ps h
  exact ⟨k + 1, p, hp, rfl, hk⟩

/-! ### lengths -/
/-- x is what Short tells: nothing is new, and each number is of a sentence. -/
structure IsShort (x : List Int) : Prop where
  fix : ∀ p ∈ ps, lenF x 0 p.2.1 < 0 ∨ (0 ≤ nth x p.1.toNat ∧ nth x p.1.toNat ≤ lenF x 0 p.2.1)
  der : ∀ X, X < x.length → 0 ≤ nth x X → ∃ l, Der ps X l ∧ nth x X = min (l.length : Int) 1000000

theorem lenF_cat {x : List Int} {R : Nat → List Int → Prop} (hR : ∀ X a, R X a → 0 ≤ nth x X ∧ nth x X ≤ a.length) : ∀ (r l : List Int), Cat R r l → (∀ s ∈ r, 0 ≤ symL x s) ∧ sumS x r ≤ l.length
  | [], l, h => ⟨(fun s hs => by cases hs), by simp [sumS]⟩
  | s :: r, l, ⟨a, b, e, h1, h2⟩ => by
    obtain ⟨i1, i2⟩ := lenF_cat hR r b h2
    have hs : 0 ≤ symL x s ∧ symL x s ≤ a.length := by
      unfold symL
      by_cases hs : s < 0
      · rw [if_pos hs] at h1 ⊢; exact hR _ _ h1
      · rw [if_neg hs] at h1 ⊢; subst h1; simp
    refine ⟨fun t ht => ?_, ?_⟩
    · rcases List.mem_cons.1 ht with rfl | ht
      · exact hs.1
      · exact i1 t ht
    · subst e; simp only [sumS, List.length_append]; omega
theorem isShort_le {x : List Int} (hx : IsShort ps x) : ∀ (h : Nat) (X : Nat) (l : List Int), DerH ps h X l → 0 ≤ nth x X ∧ nth x X ≤ l.length
  | 0, _, _, hd => hd.elim
  | h + 1, X, l, ⟨p, hp, e, hc⟩ => by
    obtain ⟨i1, i2⟩ := lenF_cat (isShort_le hx h) _ _ hc
    have h1 := lenF_sum p.2.1 0 (by omega) (by omega) i1
    have h2 := sumS_nonneg p.2.1 i1
    subst e
    rcases hx.fix p hp with h | h <;> omega

/-- Where a sentence is as short as can be, all its pieces are. -/
theorem cat_tight {x : List Int} {R : Nat → List Int → Prop} (hR : ∀ X a, R X a → 0 ≤ nth x X ∧ nth x X ≤ a.length) : ∀ (r l : List Int), Cat R r l → (l.length : Int) ≤ sumS x r → Cat (fun X a => R X a ∧ (a.length : Int) = nth x X) r l
  | [], l, h, _ => h
  | s :: r, l, ⟨a, b, e, h1, h2⟩, hl => by
    obtain ⟨i1, i2⟩ := lenF_cat hR r b h2
    subst e
    simp only [sumS, List.length_append] at hl
    by_cases hs : s < 0
    · have h1' := h1
      rw [if_pos hs] at h1'
      have := hR _ _ h1'
      have hy : symL x s = nth x (-1 - s).toNat := by unfold symL; rw [if_pos hs]
      rw [hy] at hl
      exact ⟨a, b, rfl, by rw [if_pos hs]; exact ⟨h1', by omega⟩, cat_tight hR r b h2 (by omega)⟩
    · have h1' := h1
      rw [if_neg hs] at h1'
      have hy : symL x s = 1 := by unfold symL; rw [if_neg hs]
      rw [hy] at hl
      subst h1'
      exact ⟨[s], b, rfl, by rw [if_neg hs], cat_tight hR r b h2 (by simp at hl; omega)⟩

/-! ### states: of each name the sentence that is had -/
abbrev Sn := List (Option (List Int))
def sn (st : Sn) (k : Nat) : Option (List Int) := st.getD k none
theorem sn_set {st : Sn} {k j : Nat} {v : Option (List Int)} (hk : k < st.length) : sn (st.set k v) j = if k = j then v else sn st j := by
  unfold sn
  by_cases h : k = j
  · subst h; simp [List.getD, hk]
  · simp [List.getD, h]
/-- The sentence of symbols. -/
def sentF (st : Sn) : List Int → Option (List Int)
  | [] => some []
  | s :: r => match (if s < 0 then sn st (-1 - s).toNat else some [s]), sentF st r with
    | some a, some b => some (a ++ b)
    | _, _ => none
theorem sentF_cat {st : Sn} {R : Nat → List Int → Prop} (hR : ∀ X a, sn st X = some a → R X a) : ∀ (r l : List Int), sentF st r = some l → Cat R r l
  | [], l, h => by simp [sentF] at h; show l = []; exact h
  | s :: r, l, h => by
    simp only [sentF] at h
    split at h
    · rename_i a b h1 h2
      simp at h
      refine ⟨a, b, h.symm, ?_, sentF_cat hR r b h2⟩
      split at h1
      · rw [if_pos ‹_›]; exact hR _ _ h1
      · rw [if_neg ‹_›]; simp at h1; exact h1.symm
    · cases h
/-- What is had of each piece, joined, is not behind. -/
theorem cat_sent {st : Sn} {R : Nat → List Int → Prop} (hR : ∀ X a, R X a → ∃ b, sn st X = some b ∧ le b a) : ∀ (r l : List Int), Cat R r l → ∃ b, sentF st r = some b ∧ le b l
  | [], l, h => ⟨[], rfl, by rw [show l = [] from h]; exact le.refl _⟩
  | s :: r, l, ⟨a, b, e, h1, h2⟩ => by
    obtain ⟨b2, e2, l2⟩ := cat_sent hR r b h2
    subst e
    by_cases hs : s < 0
    · rw [if_pos hs] at h1
      obtain ⟨b1, e1, l1⟩ := hR _ _ h1
      exact ⟨b1 ++ b2, by simp only [sentF]; rw [if_pos hs, e1, e2], l1.app l2⟩
    · rw [if_neg hs] at h1
      subst h1
      exact ⟨[s] ++ b2, by simp only [sentF]; rw [if_neg hs, e2], (le.refl [s]).app l2⟩

/-- The program's step at a length. -/
def stepN (x : List Int) (size : Int) (_ : Nat) (p : Pr) (st : Sn) : Sn × Bool :=
  if nth x p.1.toNat ≠ size ∨ lenF x 0 p.2.1 ≠ size then (st, false) else
  match sentF st p.2.1 with
  | none => (st, false)
  | some l => match sn st p.1.toNat with
    | none => (st.set p.1.toNat (some l), true)
    | some b => if lexlt l b = true then (st.set p.1.toNat (some l), true) else (st, false)
/-- The document's. -/
def stepD (_ : Nat) (p : Pr) (st : Sn) : Sn × Bool :=
  match sentF st p.2.1 with
  | none => (st, false)
  | some l => if 1000 < l.length then (st, false) else match sn st p.1.toNat with
    | none => (st.set p.1.toNat (some l), true)
    | some b => if earl l b = true then (st.set p.1.toNat (some l), true) else (st, false)
theorem stepN_same {x : List Int} {size : Int} (i : Nat) (p : Pr) (st : Sn) (h : (stepN x size i p st).2 = false) : (stepN x size i p st).1 = st := by
  unfold stepN at h ⊢
  repeat' split at h
  all_goals simp_all
theorem stepD_same (i : Nat) (p : Pr) (st : Sn) (h : (stepD i p st).2 = false) : (stepD i p st).1 = st := by
  unfold stepD at h ⊢
  repeat' split at h
  all_goals simp_all
end
end Go.Proofs.YtklhjaohnimmnaaDoor
