/- Plain: with which terminals sentences begin: after as many passes as there are names nothing is new. No program here. -/
import Derived.Test.YtgfchgnebpogjaaFsP
namespace Go.Proofs.Ytgfchgnebpogjaa
set_option linter.unusedVariables false
set_option linter.unusedSimpArgs false

/-- N rows of T. -/
def Rect (N T : Nat) (M : List (List Bool)) : Prop := M.length = N ∧ ∀ k, k < N → (rowB M k).length = T
theorem Rect.set {N T : Nat} {M : List (List Bool)} (h : Rect N T M) {k : Nat} (hk : k < N) {r : List Bool} (hr : r.length = T) : Rect N T (M.set k r) :=
  ⟨by rw [List.length_set]; exact h.1, fun j hj => by
    rw [rowB_set (by rw [h.1]; exact hk)]
    split
    · exact hr
    · exact h.2 j hj⟩
/-- Which productions fit. -/
def FitF (N T : Nat) (p : Pr) : Prop := p.1.toNat < N ∧ ∀ s ∈ p.2.1, (s < 0 → (-1 - s).toNat < N) ∧ s < (T : Int)

/-! ### how much is not yet in -/
def muM (M : List (List Bool)) : Nat := (M.map muB).sum
theorem muM_set : ∀ (M : List (List Bool)) (k : Nat) (r : List Bool), k < M.length → muB r ≤ muB (rowB M k) → muM (M.set k r) ≤ muM M ∧ (muB r < muB (rowB M k) → muM (M.set k r) < muM M)
  | [], k, r, h, _ => by simp at h
  | a :: M, 0, r, _, h => by
    have e : rowB (a :: M) 0 = a := rfl
    rw [e] at h ⊢
    unfold muM
    rw [List.set_cons_zero, List.map_cons, List.map_cons, List.sum_cons, List.sum_cons]
    exact ⟨by omega, fun q => by omega⟩
  | a :: M, k + 1, r, hk, h => by
    have e : rowB (a :: M) (k + 1) = rowB M k := by simp [rowB]
    rw [e] at h ⊢
    have := muM_set M k r (by simpa using hk) h
    unfold muM at this ⊢
    rw [List.set_cons_succ, List.map_cons, List.map_cons, List.sum_cons, List.sum_cons]
    exact ⟨by have := this.1; omega, fun q => by have := this.2 q; omega⟩
theorem muB_or : ∀ (a c : List Bool), a.length = c.length → muB (orB a c) ≤ muB a ∧ (newB a c = true → muB (orB a c) < muB a) ∧ (newB a c = false → orB a c = a)
  | [], [], _ => by simp [orB, newB, muB]
  | [], _ :: _, h => by simp at h
  | _ :: _, [], h => by simp at h
  | x :: a, y :: c, h => by
    obtain ⟨h1, h2, h3⟩ := muB_or a c (by simpa using h)
    have e1 : orB (x :: a) (y :: c) = (x || y) :: orB a c := rfl
    have e2 : newB (x :: a) (y :: c) = ((y && !x) || newB a c) := rfl
    have e3 : ∀ (b : Bool) (l : List Bool), muB (b :: l) = (if b = true then 0 else 1) + muB l := fun b l => by unfold muB; rw [List.map_cons, List.sum_cons]
    rw [e1, e2, e3, e3]
    cases x <;> cases y <;> simp only [Bool.or_false, Bool.or_true, Bool.true_or, Bool.false_or, Bool.and_false, Bool.and_true, Bool.not_true, Bool.not_false, Bool.false_and, Bool.true_and] <;> refine ⟨by simp; omega, fun q => by first | (have := h2 q; simp; omega) | (simp; omega), fun q => by first | rw [h3 q] | cases q⟩
theorem muB_set_le {l : List Bool} {k : Nat} (hk : k < l.length) : muB (l.set k true) ≤ muB l ∧ (bth l k = false → muB (l.set k true) < muB l) ∧ (bth l k = true → l.set k true = l) := by
  refine ⟨?_, muB_set l k hk, fun h => ?_⟩
  · cases h : bth l k
    · exact Nat.le_of_lt (muB_set l k hk h)
    · have : l.set k true = l := by
        apply List.ext_getElem
        · simp
        · intro i h1 h2
          rw [List.getElem_set]
          split
          · rename_i e; subst e; rw [bth_get hk] at h; exact h.symm
          · rfl
      rw [this]; exact Nat.le_refl _
  · apply List.ext_getElem
    · simp
    · intro i h1 h2
      rw [List.getElem_set]
      split
      · rename_i e; subst e; rw [bth_get hk] at h; exact h.symm
      · rfl
theorem set_rowB {M : List (List Bool)} {k : Nat} (hk : k < M.length) : M.set k (rowB M k) = M := by
  apply List.ext_getElem
  · simp
  · intro i h1 h2
    rw [List.getElem_set]
    split
    · rename_i e; subst e; rw [rowB_get hk]
    · rfl

theorem goF_all {N T : Nat} {emp : List Bool} {left : Nat} (hleft : left < N) : ∀ (r : List Int) (M : List (List Bool)) (q : Bool), Rect N T M → (∀ s ∈ r, (s < 0 → (-1 - s).toNat < N) ∧ s < (T : Int)) →
    Rect N T (goF emp left r M q).1 ∧ muM (goF emp left r M q).1 ≤ muM M ∧ ((goF emp left r M q).2 = true → q = true ∨ muM (goF emp left r M q).1 < muM M) ∧ ((goF emp left r M q).2 = false → q = false ∧ (goF emp left r M q).1 = M)
  | [], M, q, hM, _ => ⟨hM, Nat.le_refl _, fun h => .inl h, fun h => ⟨h, rfl⟩⟩
  | s :: r, M, q, hM, hs => by
    have hrow := hM.2 left hleft
    have hlm : left < M.length := by rw [hM.1]; exact hleft
    obtain ⟨hs1, hs2⟩ := hs s (by simp)
    simp only [goF]
    by_cases h0 : 0 ≤ s
    · rw [if_pos h0]
      obtain ⟨m1, m2, m3⟩ := muB_set_le (l := rowB M left) (k := s.toNat) (by omega)
      obtain ⟨n1, n2⟩ := muM_set M left ((rowB M left).set s.toNat true) hlm m1
      refine ⟨hM.set hleft (by rw [List.length_set]; exact hrow), n1, fun h => ?_, fun h => ?_⟩
      · cases hb : bth (rowB M left) s.toNat
        · exact .inr (n2 (m2 hb))
        · rw [hb] at h; simp at h; exact .inl h
      · cases hb : bth (rowB M left) s.toNat
        · rw [hb] at h; simp at h
        · rw [hb] at h; simp at h
          exact ⟨h, by rw [m3 hb, set_rowB hlm]⟩
    · rw [if_neg h0]
      have hnm := hs1 (by omega)
      have hrow2 := hM.2 _ hnm
      obtain ⟨m1, m2, m3⟩ := muB_or (rowB M left) (rowB M (-1 - s).toNat) (by omega)
      obtain ⟨n1, n2⟩ := muM_set M left (orB (rowB M left) (rowB M (-1 - s).toNat)) hlm m1
      have hM' : Rect N T (M.set left (orB (rowB M left) (rowB M (-1 - s).toNat))) := hM.set hleft (orB_len hrow hrow2)
      by_cases he : bth emp (-1 - s).toNat = true
      · rw [if_pos he]
        obtain ⟨i1, i2, i3, i4⟩ := goF_all hleft r _ (newB (rowB M left) (rowB M (-1 - s).toNat) || q) hM' (fun t ht => hs t (List.mem_cons_of_mem _ ht))
        refine ⟨i1, Nat.le_trans i2 n1, fun h => ?_, fun h => ?_⟩
        · rcases i3 h with h | h
          · by_cases hn : newB (rowB M left) (rowB M (-1 - s).toNat) = true
            · exact .inr (Nat.lt_of_le_of_lt i2 (n2 (m2 hn)))
            · simp only [Bool.not_eq_true] at hn
              rw [hn] at h; simp at h; exact .inl h
          · exact .inr (Nat.lt_of_lt_of_le h n1)
        · obtain ⟨j1, j2⟩ := i4 h
          simp only [Bool.or_eq_false_iff] at j1
          exact ⟨j1.2, by rw [j2, m3 j1.1, set_rowB hlm]⟩
      · rw [if_neg he]
        refine ⟨hM', n1, fun h => ?_, fun h => ?_⟩
        · cases hn : newB (rowB M left) (rowB M (-1 - s).toNat)
          · rw [hn] at h; simp at h; exact .inl h
          · exact .inr (n2 (m2 hn))
        · simp only [Bool.or_eq_false_iff] at h
          exact ⟨h.2, by rw [m3 h.1, set_rowB hlm]⟩

section
variable {N T : Nat} {lives emp : List Bool}
theorem stepF_all {i : Nat} {p : Pr} {M : List (List Bool)} (hp : FitF N T p) (hM : Rect N T M) :
    Rect N T (stepF lives emp i p M).1 ∧ muM (stepF lives emp i p M).1 ≤ muM M ∧ ((stepF lives emp i p M).2 = true → muM (stepF lives emp i p M).1 < muM M) ∧ ((stepF lives emp i p M).2 = false → (stepF lives emp i p M).1 = M) := by
  unfold stepF
  split
  · obtain ⟨h1, h2, h3, h4⟩ := goF_all (emp := emp) hp.1 p.2.1 M false hM hp.2
    exact ⟨h1, h2, fun h => by rcases h3 h with q | q; cases q; exact q, fun h => (h4 h).2⟩
  · exact ⟨hM, Nat.le_refl _, (fun h => by cases h), fun _ => rfl⟩

/-! ### one terminal at a time -/
def col (c : Nat) (M : List (List Bool)) : List Bool := M.map (fun r => bth r c)
theorem col_len {c : Nat} {M : List (List Bool)} : (col c M).length = M.length := by unfold col; simp
theorem col_bth {c k : Nat} {M : List (List Bool)} (hk : k < M.length) : bth (col c M) k = bth (rowB M k) c := by
  rw [bth_get (by rw [col_len]; exact hk), rowB_get hk]
  unfold col; simp
theorem col_set {c k : Nat} {M : List (List Bool)} {r : List Bool} : col c (M.set k r) = (col c M).set k (bth r c) := by
  unfold col; rw [List.map_set]
def goC (emp : List Bool) (left c : Nat) : List Int → List Bool → List Bool
  | [], l => l
  | s :: r, l =>
    if 0 ≤ s then l.set left (bth l left || decide (s.toNat = c))
    else if bth emp (-1 - s).toNat = true then goC emp left c r (l.set left (bth l left || bth l (-1 - s).toNat))
    else l.set left (bth l left || bth l (-1 - s).toNat)
theorem goF_col {left c : Nat} (hleft : left < N) (hc : c < T) : ∀ (r : List Int) (M : List (List Bool)) (q : Bool), Rect N T M → (∀ s ∈ r, (s < 0 → (-1 - s).toNat < N) ∧ s < (T : Int)) → col c (goF emp left r M q).1 = goC emp left c r (col c M)
  | [], M, q, hM, _ => rfl
  | s :: r, M, q, hM, hs => by
    have hrow := hM.2 left hleft
    have hlm : left < M.length := by rw [hM.1]; exact hleft
    obtain ⟨hs1, hs2⟩ := hs s (by simp)
    simp only [goF, goC]
    by_cases h0 : 0 ≤ s
    · rw [if_pos h0, if_pos h0, col_set, col_bth hlm, bth_set (by omega)]
      congr 1
      by_cases e : s.toNat = c
      · simp [e]
      · simp [e]
    · rw [if_neg h0, if_neg h0]
      have hnm := hs1 (by omega)
      have hrow2 := hM.2 _ hnm
      have hM' : Rect N T (M.set left (orB (rowB M left) (rowB M (-1 - s).toNat))) := hM.set hleft (orB_len hrow hrow2)
      have e : col c (M.set left (orB (rowB M left) (rowB M (-1 - s).toNat))) = (col c M).set left (bth (col c M) left || bth (col c M) (-1 - s).toNat) := by
        rw [col_set, orB_nth hrow hrow2 hc, col_bth hlm, col_bth (by rw [hM.1]; exact hnm)]
      by_cases he : bth emp (-1 - s).toNat = true
      · rw [if_pos he, if_pos he, goF_col hleft hc r _ _ hM' (fun t ht => hs t (List.mem_cons_of_mem _ ht)), e]
      · rw [if_neg he, if_neg he, e]
def stepC (lives emp : List Bool) (c : Nat) (_ : Nat) (p : Pr) (l : List Bool) : List Bool × Bool :=
  if p.2.1.all (livS lives) = true then (goC emp p.1.toNat c p.2.1 l, decide (goC emp p.1.toNat c p.2.1 l ≠ l)) else (l, false)
theorem set_or {l : List Bool} {k : Nat} {b : Bool} (hk : k < l.length) : muB (l.set k (bth l k || b)) ≤ muB l ∧ (l.set k (bth l k || b) ≠ l → muB (l.set k (bth l k || b)) < muB l) := by
  have same : ∀ v, bth l k = v → l.set k v = l := fun v h => by
    apply List.ext_getElem
    · simp
    · intro i h1 h2
      rw [List.getElem_set]
      split
      · rename_i e; subst e; rw [bth_get hk] at h; exact h.symm
      · rfl
  cases hb : bth l k
  · cases b
    · simp only [Bool.or_false]; rw [same _ hb]; exact ⟨Nat.le_refl _, fun h => absurd rfl h⟩
    · simp only [Bool.or_true]; exact ⟨Nat.le_of_lt (muB_set l k hk hb), fun _ => muB_set l k hk hb⟩
  · simp only [Bool.true_or]; rw [same _ hb]; exact ⟨Nat.le_refl _, fun h => absurd rfl h⟩
theorem goC_mu {left c : Nat} : ∀ (r : List Int) (l : List Bool), left < l.length → (goC emp left c r l).length = l.length ∧ muB (goC emp left c r l) ≤ muB l ∧ (goC emp left c r l ≠ l → muB (goC emp left c r l) < muB l)
  | [], l, _ => ⟨rfl, Nat.le_refl _, fun h => absurd rfl h⟩
  | s :: r, l, hl => by
    simp only [goC]
    by_cases h0 : 0 ≤ s
    · rw [if_pos h0]
      obtain ⟨a, b⟩ := set_or (l := l) (k := left) (b := decide (s.toNat = c)) hl
      exact ⟨by simp, a, b⟩
    · rw [if_neg h0]
      obtain ⟨a, b⟩ := set_or (l := l) (k := left) (b := bth l (-1 - s).toNat) hl
      by_cases he : bth emp (-1 - s).toNat = true
      · rw [if_pos he]
        obtain ⟨i1, i2, i3⟩ := goC_mu r (l.set left (bth l left || bth l (-1 - s).toNat)) (by simpa using hl)
        refine ⟨by rw [i1]; simp, Nat.le_trans i2 a, fun h => ?_⟩
        by_cases e : l.set left (bth l left || bth l (-1 - s).toNat) = l
        · rw [e] at i3 h ⊢; exact i3 h
        · exact Nat.lt_of_le_of_lt i2 (b e)
      · rw [if_neg he]
        exact ⟨by simp, a, b⟩
theorem stepC_same {c : Nat} (i : Nat) (p : Pr) (l : List Bool) (h : (stepC lives emp c i p l).2 = false) : (stepC lives emp c i p l).1 = l := by
  unfold stepC at h ⊢
  split
  · rename_i hc
    rw [if_pos hc] at h
    simpa using h
  · rfl
theorem stepF_col {c i : Nat} {p : Pr} {M : List (List Bool)} (hc : c < T) (hp : FitF N T p) (hM : Rect N T M) : col c (stepF lives emp i p M).1 = (stepC lives emp c i p (col c M)).1 := by
  unfold stepF stepC
  split
  · exact goF_col hp.1 hc p.2.1 M false hM hp.2
  · rfl
theorem passF_col {c : Nat} (hc : c < T) : ∀ (ps : List Pr) (i : Nat) (M : List (List Bool)), (∀ p ∈ ps, FitF N T p) → Rect N T M → Rect N T (passF (stepF lives emp) i ps M).1 ∧ col c (passF (stepF lives emp) i ps M).1 = (passF (stepC lives emp c) i ps (col c M)).1
  | [], i, M, _, hM => ⟨hM, rfl⟩
  | p :: ps, i, M, hp, hM => by
    have hp1 := hp p (by simp)
    obtain ⟨h1, h2⟩ := passF_col hc ps (i + 1) (stepF lives emp i p M).1 (fun q hq => hp q (List.mem_cons_of_mem _ hq)) (stepF_all hp1 hM).1
    refine ⟨h1, ?_⟩
    rw [passF, passF, h2, stepF_col hc hp1 hM]
theorem rounds_col {c : Nat} (hc : c < T) {ps : List Pr} (hp : ∀ p ∈ ps, FitF N T p) {M : List (List Bool)} (hM : Rect N T M) : ∀ n, Rect N T (rounds (stepF lives emp) ps n M) ∧ col c (rounds (stepF lives emp) ps n M) = rounds (stepC lives emp c) ps n (col c M)
  | 0 => ⟨hM, rfl⟩
  | n + 1 => by
    obtain ⟨h1, h2⟩ := rounds_col hc hp hM n
    obtain ⟨h3, h4⟩ := passF_col (lives := lives) (emp := emp) hc ps 0 _ hp h1
    exact ⟨h3, by rw [rounds, rounds, h4, h2]⟩
theorem pass_lowers' : ∀ (ps : List Pr) (i : Nat) (M : List (List Bool)), (∀ p ∈ ps, FitF N T p) → Rect N T M →
    Rect N T (passF (stepF lives emp) i ps M).1 ∧ muM (passF (stepF lives emp) i ps M).1 ≤ muM M ∧ ((passF (stepF lives emp) i ps M).2 = true → muM (passF (stepF lives emp) i ps M).1 < muM M)
  | [], i, M, _, hM => ⟨hM, Nat.le_refl _, fun h => by simp [passF] at h⟩
  | p :: ps, i, M, hp, hM => by
    obtain ⟨s1, s2, s3, s4⟩ := stepF_all (lives := lives) (emp := emp) (i := i) (hp p (by simp)) hM
    obtain ⟨h1, h2, h3⟩ := pass_lowers' ps (i + 1) (stepF lives emp i p M).1 (fun q hq => hp q (List.mem_cons_of_mem _ hq)) s1
    rw [passF]
    refine ⟨h1, Nat.le_trans h2 s2, fun h => ?_⟩
    simp only [Bool.or_eq_true] at h
    rcases h with h | h
    · exact Nat.lt_of_le_of_lt h2 (s3 h)
    · exact Nat.lt_of_lt_of_le (h3 h) s2
theorem rect_ext {M M' : List (List Bool)} (h : Rect N T M) (h' : Rect N T M') (hc : ∀ c, c < T → col c M = col c M') : M = M' := by
  apply List.ext_getElem (by rw [h.1, h'.1])
  intro k h1 h2
  have hk : k < N := by rw [h.1] at h1; exact h1
  have e1 := h.2 k hk
  have e2 := h'.2 k hk
  rw [rowB_get h1] at e1
  rw [rowB_get h2] at e2
  refine bth_ext e1 e2 fun c hcT => ?_
  have : bth (col c M) k = bth (col c M') k := by rw [hc c hcT]
  rw [col_bth h1, col_bth h2, rowB_get h1, rowB_get h2] at this
  exact this
theorem m0_rect (N T : Nat) : Rect N T (List.replicate N (List.replicate T false)) := ⟨List.length_replicate, fun k hk => by
  unfold rowB; rw [List.getD_eq_getElem?_getD, List.getElem?_replicate, if_pos hk]; simp⟩
/-- After N passes nothing is new. -/
theorem stepF_done {ps : List Pr} (hp : ∀ p ∈ ps, FitF N T p) : (passF (stepF lives emp) 0 ps (rounds (stepF lives emp) ps N (List.replicate N (List.replicate T false)))).2 = false := by
  have hR : Rect N T (rounds (stepF lives emp) ps N (List.replicate N (List.replicate T false))) :=
    rounds_keep (Q := Rect N T) (fun k p y hk hy => (stepF_all (hp p (List.mem_of_getElem? hk)) hy).1) (m0_rect N T) N
  have hlow := pass_lowers' (lives := lives) (emp := emp) (T := T) ps 0 _ hp hR
  have hsame : (passF (stepF lives emp) 0 ps (rounds (stepF lives emp) ps N (List.replicate N (List.replicate T false)))).1 = rounds (stepF lives emp) ps N (List.replicate N (List.replicate T false)) := by
    refine rect_ext hlow.1 hR fun c hc => ?_
    rw [(passF_col hc ps 0 _ hp hR).2, (rounds_col hc hp (m0_rect N T) N).2]
    have hb : col c (List.replicate N (List.replicate T false)) = b0 N := by
      unfold col b0
      rw [List.map_replicate]
      congr 1
      unfold bth
      rw [List.getD_eq_getElem?_getD, List.getElem?_replicate]
      split <;> rfl
    rw [hb]
    have hfix := fix_measure (step := stepC lives emp c) (Q := fun l : List Bool => l.length = N) (μ := muB) stepC_same (ps := ps) (fun k p y hk hy => by
      have hpp := hp p (List.mem_of_getElem? hk)
      unfold stepC
      split
      · obtain ⟨g1, g2, g3⟩ := goC_mu (emp := emp) (left := p.1.toNat) (c := c) p.2.1 y (by rw [hy]; exact hpp.1)
        exact ⟨by rw [g1]; exact hy, fun h => g3 (by simpa using h)⟩
      · exact ⟨hy, fun h => by cases h⟩) (x := b0 N) (by simp [b0])
    rw [muB_b0] at hfix
    exact pass_same stepC_same ps 0 _ hfix
  cases h : (passF (stepF lives emp) 0 ps (rounds (stepF lives emp) ps N (List.replicate N (List.replicate T false)))).2
  · rfl
  · have := hlow.2.2 h
    rw [hsame] at this
    omega
end
end Go.Proofs.Ytgfchgnebpogjaa
