/- Plain: what stands behind each name: two ways to the same. No program here. · slices.Backward over a slice of numbers, as a range over a function takes it; slices.Clone of truths; add with a shorter row. · A region that draws its order, in a round of a range over a function: what is proved of it outside serves inside. · grammar.add where the row that is put in may be shorter; slices.Clone of truths. -/
import Derived.Test.YtgfchgnebpogjaaZ12
import Derived.Test.YtgfchgnebpogjaaZ14
import Derived.RangeFuncNested
import Derived.RangeFuncBox
import Derived.RangeFuncBound
import Derived.RangeFuncCalls
import Derived.RangeFuncLeaves
import Derived.Shelf.Abstract
import Derived.WalkKit
import Derived.OwnWalkIn
import Derived.TacticsInMore
import Derived.LoopNIn
import Derived.LoopIn
import Derived.StillTailTactics
import Derived.BigQuiet
import Derived.OrdersIn
import Derived.Test.YtgfchgnebpogjaaZ9
namespace Go.Proofs.Ytgfchgnebpogjaa
set_option linter.unusedVariables false
set_option linter.unusedSimpArgs false

/-! ### a short row put into a long one -/
section
variable {a c : List Bool} {T T1 k : Nat}
theorem orK_nth2 (ha : a.length = T1) (hc : c.length = T) (hT : T ≤ T1) (hk : k ≤ T) {j : Nat} (hj : j < T1) : bth (orK a c k) j = if j < k then (bth a j || bth c j) else bth a j := by
  have l1 : (orB (a.take k) (c.take k)).length = k := orB_len (by rw [List.length_take]; omega) (by rw [List.length_take]; omega)
  unfold orK bth
  rw [List.getD_eq_getElem?_getD]
  by_cases h : j < k
  · rw [if_pos h, List.getElem?_append_left (by omega)]
    have := orB_nth (a := a.take k) (c := c.take k) (T := k) (k := j) (by rw [List.length_take]; omega) (by rw [List.length_take]; omega) h
    unfold bth at this
    rw [List.getD_eq_getElem?_getD] at this
    rw [this]
    simp [List.getD, h]
  · rw [if_neg h, List.getElem?_append_right (by omega), l1]
    simp [List.getD]
    rw [show k + (j - k) = j by omega]
theorem orK_len2 (ha : a.length = T1) (hc : c.length = T) (hT : T ≤ T1) (hk : k ≤ T) : (orK a c k).length = T1 := by
  unfold orK
  rw [List.length_append, orB_len (T := k) (by rw [List.length_take]; omega) (by rw [List.length_take]; omega), List.length_drop]; omega
theorem orK_step2 (ha : a.length = T1) (hc : c.length = T) (hT : T ≤ T1) (hk : k < T) : orK a c (k + 1) = (orK a c k).set k (bth a k || bth c k) := by
  refine bth_ext (orK_len2 ha hc hT (by omega)) (by rw [List.length_set]; exact orK_len2 ha hc hT (by omega)) fun j hj => ?_
  rw [bth_set (by rw [orK_len2 ha hc hT (by omega)]; omega), orK_nth2 ha hc hT (by omega) hj, orK_nth2 ha hc hT (by omega) hj]
  by_cases e : k = j
  · subst e
    rw [if_pos (by omega), if_pos rfl]
  · rw [if_neg e]
    by_cases h2 : j < k
    · rw [if_pos (by omega), if_pos h2]
    · rw [if_neg (by omega), if_neg h2]
theorem orK_zero : orK a c 0 = a := by simp [orK, orB]
theorem newK_snoc2 (ha : k < a.length) (hc : k < c.length) : newK a c (k + 1) = (newK a c k || (bth c k && !bth a k)) := by
  unfold newK newB
  rw [List.take_succ_eq_append_getElem ha, List.take_succ_eq_append_getElem hc, List.zipWith_append (by rw [List.length_take, List.length_take]; omega), List.any_append, bth_get ha, bth_get hc]
  simp
end

section
variable (EM : List Bool) (FT : List (List Bool)) (T : Nat)
/-- Is the terminal among those with which the symbols may begin? -/
def cst : List Int → Nat → Bool
  | [], _ => false
  | s :: r, t => if 0 ≤ s then decide (s.toNat = t) else (bth (rowB FT (-1 - s).toNat) t || (bth EM (-1 - s).toNat && cst r t))
def nul : List Int → Bool
  | [] => true
  | s :: r => !decide (0 ≤ s) && (bth EM (-1 - s).toNat && nul r)
def zT (T : Nat) : List Bool := List.replicate (T + 1) false
/-- What stands behind a place: the symbols r, then L. -/
def behR : List Int → List Bool → List Bool
  | [], L => L
  | s :: r, L => if 0 ≤ s then (zT T).set s.toNat true else orK (if bth EM (-1 - s).toNat = true then behR r L else zT T) (rowB FT (-1 - s).toNat) T
/-- The document's way: into a. -/
def foA : List Int → List Bool → List Bool → List Bool
  | [], a, L => orB a L
  | s :: r, a, L => if 0 ≤ s then a.set s.toNat true else if bth EM (-1 - s).toNat = true then foA r (orK a (rowB FT (-1 - s).toNat) T) L else orK a (rowB FT (-1 - s).toNat) T
end
/-- Which symbols fit. -/
def FitS (N T : Nat) (r : List Int) : Prop := ∀ s ∈ r, (s < 0 → (-1 - s).toNat < N) ∧ s < (T : Int)
theorem FitS.tail {N T : Nat} {s : Int} {r : List Int} (h : FitS N T (s :: r)) : FitS N T r := fun t ht => h t (List.mem_cons_of_mem _ ht)
theorem FitS.drop {N T : Nat} {r : List Int} (h : FitS N T r) (k : Nat) : FitS N T (r.drop k) := fun t ht => h t (List.mem_of_mem_drop ht)
section
variable {EM : List Bool} {FT : List (List Bool)} {N T : Nat}
theorem zT_nth {T t : Nat} : bth (zT T) t = false := by
  unfold zT bth
  rw [List.getD_eq_getElem?_getD, List.getElem?_replicate]
  split <;> rfl
theorem zT_len : (zT T).length = T + 1 := by simp [zT]
theorem behR_len (hF : Rect N T FT) : ∀ {r : List Int} {L : List Bool}, FitS N T r → L.length = T + 1 → (behR EM FT T r L).length = T + 1
  | [], L, _, hL => hL
  | s :: r, L, hr, hL => by
    rw [behR]
    split
    · rw [List.length_set, zT_len]
    · have := (hr s (by simp)).1 (by omega)
      refine orK_len2 ?_ (hF.2 _ this) (by omega) (Nat.le_refl _)
      split
      · exact behR_len hF hr.tail hL
      · exact zT_len
theorem behR_nth (hF : Rect N T FT) {t : Nat} (ht : t < T + 1) : ∀ {r : List Int} {L : List Bool}, FitS N T r → L.length = T + 1 → bth (behR EM FT T r L) t = (cst EM FT r t || (nul EM r && bth L t))
  | [], L, _, hL => by simp [behR, cst, nul]
  | s :: r, L, hr, hL => by
    rw [behR, cst, nul]
    by_cases h0 : 0 ≤ s
    · have := (hr s (by simp)).2
      rw [if_pos h0, if_pos h0, bth_set (by rw [zT_len]; omega), zT_nth]
      by_cases e : s.toNat = t <;> simp [e, h0]
    · rw [if_neg h0, if_neg h0]
      have hn := (hr s (by simp)).1 (by omega)
      have hl : (if bth EM (-1 - s).toNat = true then behR EM FT T r L else zT T).length = T + 1 := by
        split
        · exact behR_len hF hr.tail hL
        · exact zT_len
      rw [orK_nth2 hl (hF.2 _ hn) (by omega) (Nat.le_refl _) ht]
      have hTt : ¬ t < T → bth (rowB FT (-1 - s).toNat) t = false := fun h => bth_false_of_le (by rw [hF.2 _ hn]; omega)
      have key : bth (if bth EM (-1 - s).toNat = true then behR EM FT T r L else zT T) t = (bth EM (-1 - s).toNat && (cst EM FT r t || (nul EM r && bth L t))) := by
        split
        · rename_i h; rw [behR_nth hF ht hr.tail hL, h]; simp
        · rename_i h; rw [zT_nth]; simp only [Bool.not_eq_true] at h; rw [h]; rfl
      rw [key]
      have d : decide (0 ≤ s) = false := decide_eq_false h0
      rw [d]
      by_cases h : t < T
      · rw [if_pos h]
        cases bth EM (-1 - s).toNat <;> cases bth (rowB FT (-1 - s).toNat) t <;> cases cst EM FT r t <;> cases nul EM r <;> cases bth L t <;> rfl
      · rw [if_neg h, hTt h]
        cases bth EM (-1 - s).toNat <;> cases cst EM FT r t <;> cases nul EM r <;> cases bth L t <;> rfl
theorem foA_len (hF : Rect N T FT) : ∀ {r : List Int} {a L : List Bool}, FitS N T r → a.length = T + 1 → L.length = T + 1 → (foA EM FT T r a L).length = T + 1
  | [], a, L, _, ha, hL => orB_len ha hL
  | s :: r, a, L, hr, ha, hL => by
    rw [foA]
    split
    · rw [List.length_set]; exact ha
    · have hn := (hr s (by simp)).1 (by omega)
      have hl := orK_len2 ha (hF.2 _ hn) (by omega : T ≤ T + 1) (Nat.le_refl _)
      split
      · exact foA_len hF hr.tail hl hL
      · exact hl
theorem foA_nth (hF : Rect N T FT) {t : Nat} (ht : t < T + 1) : ∀ {r : List Int} {a L : List Bool}, FitS N T r → a.length = T + 1 → L.length = T + 1 → bth (foA EM FT T r a L) t = (bth a t || (cst EM FT r t || (nul EM r && bth L t)))
  | [], a, L, _, ha, hL => by rw [foA, orB_nth ha hL ht]; simp [cst, nul]
  | s :: r, a, L, hr, ha, hL => by
    rw [foA, cst, nul]
    by_cases h0 : 0 ≤ s
    · have := (hr s (by simp)).2
      rw [if_pos h0, if_pos h0, bth_set (by omega)]
      by_cases e : s.toNat = t
      · simp [e, h0]
      · simp [e, h0]
    · rw [if_neg h0, if_neg h0]
      have hn := (hr s (by simp)).1 (by omega)
      have hl := orK_len2 ha (hF.2 _ hn) (by omega : T ≤ T + 1) (Nat.le_refl _)
      have hTt : ¬ t < T → bth (rowB FT (-1 - s).toNat) t = false := fun h => bth_false_of_le (by rw [hF.2 _ hn]; omega)
      have hk := orK_nth2 ha (hF.2 _ hn) (by omega : T ≤ T + 1) (Nat.le_refl _) ht
      have d : decide (0 ≤ s) = false := decide_eq_false h0
      rw [d]
      have e1 : bth (orK a (rowB FT (-1 - s).toNat) T) t = (bth a t || bth (rowB FT (-1 - s).toNat) t) := by
        rw [hk]
        split
        · rfl
        · rename_i h; rw [hTt h]; simp
      split
      · rename_i h
        rw [foA_nth hF ht hr.tail hl hL, e1, h]
        cases bth a t <;> cases bth (rowB FT (-1 - s).toNat) t <;> cases cst EM FT r t <;> cases nul EM r <;> cases bth L t <;> rfl
      · rename_i h
        simp only [Bool.not_eq_true] at h
        rw [e1, h]
        cases bth a t <;> cases bth (rowB FT (-1 - s).toNat) t <;> rfl
end

/-! ### what is to be found -/
inductive FolR (EM : List Bool) (FT : List (List Bool)) (ps : List Pr) (u : List Bool) (X T : Nat) (b : Bool) : Nat → Nat → Prop
  | ini : b = true → FolR EM FT ps u X T b X T
  | cst {i k t : Nat} {p : Pr} : ps[i]? = some p → bth u i = true → k < p.2.1.length → nth p.2.1 k < 0 → cst EM FT (p.2.1.drop (k + 1)) t = true → FolR EM FT ps u X T b (-1 - nth p.2.1 k).toNat t
  | nul {i k t : Nat} {p : Pr} : ps[i]? = some p → bth u i = true → k < p.2.1.length → nth p.2.1 k < 0 → nul EM (p.2.1.drop (k + 1)) = true → FolR EM FT ps u X T b p.1.toNat t → FolR EM FT ps u X T b (-1 - nth p.2.1 k).toNat t

section
variable {EM u : List Bool} {FT : List (List Bool)} {N T X : Nat} {ps : List Pr} {b : Bool}
/-- Rows that say no more than what is to be found, and the start. -/
structure FolS (EM : List Bool) (FT : List (List Bool)) (ps : List Pr) (u : List Bool) (N X T : Nat) (b : Bool) (M : List (List Bool)) : Prop where
  rect : Rect N (T + 1) M
  ini : b = true → bth (rowB M X) T = true
  snd : ∀ n t, n < N → t < T + 1 → bth (rowB M n) t = true → FolR EM FT ps u X T b n t
/-- At one place of one production nothing more is to be put in. -/
def FolC (EM : List Bool) (FT : List (List Bool)) (T : Nat) (p : Pr) (k : Nat) (M : List (List Bool)) : Prop :=
  nth p.2.1 k < 0 → ∀ t, t < T + 1 → (cst EM FT (p.2.1.drop (k + 1)) t || (nul EM (p.2.1.drop (k + 1)) && bth (rowB M p.1.toNat) t)) = true → bth (rowB M (-1 - nth p.2.1 k).toNat) t = true
/-- The rows are just what is to be found. -/
structure FolOk (EM : List Bool) (FT : List (List Bool)) (ps : List Pr) (u : List Bool) (N X T : Nat) (b : Bool) (M : List (List Bool)) : Prop where
  rect : Rect N (T + 1) M
  iff : ∀ n t, n < N → t < T + 1 → (bth (rowB M n) t = true ↔ FolR EM FT ps u X T b n t)
theorem FolOk.of {M : List (List Bool)} (hX : X < N) (hfit : ∀ p ∈ ps, FitF N T p) (h : FolS EM FT ps u N X T b M) (hc : ∀ i p k, ps[i]? = some p → bth u i = true → k < p.2.1.length → FolC EM FT T p k M) : FolOk EM FT ps u N X T b M := by
  refine ⟨h.rect, fun n t hn ht => ⟨h.snd n t hn ht, fun q => ?_⟩⟩
  induction q with
  | ini hb => exact h.ini hb
  | cst hp hu hk h0 e => exact hc _ _ _ hp hu hk h0 _ ht (by rw [e]; rfl)
  | nul hp hu hk h0 e q ih =>
    exact hc _ _ _ hp hu hk h0 _ ht (by rw [e, ih (hfit _ (List.mem_of_getElem? hp)).1 ht]; simp)
theorem FolOk.same {M M' : List (List Bool)} (h : FolOk EM FT ps u N X T b M) (h' : FolOk EM FT ps u N X T b M') : M = M' := by
  refine rect_ext h.rect h'.rect fun c hc => ?_
  refine bth_ext (T := N) (by rw [col_len, h.rect.1]) (by rw [col_len, h'.rect.1]) fun k hk => ?_
  rw [col_bth (by rw [h.rect.1]; exact hk), col_bth (by rw [h'.rect.1]; exact hk), Bool.eq_iff_iff, h.iff k c hk hc, h'.iff k c hk hc]
/-- The start. -/
def fol0 (N X T : Nat) (b : Bool) : List (List Bool) := (List.replicate N (zT T)).set X ((zT T).set T b)
theorem row_rep {N k : Nat} {r : List Bool} (h : k < N) : rowB (List.replicate N r) k = r := by
  unfold rowB; rw [List.getD_eq_getElem?_getD, List.getElem?_replicate, if_pos h]; rfl
theorem fol0_ok (hX : X < N) : FolS EM FT ps u N X T b (fol0 N X T b) := by
  have hz : Rect N (T + 1) (List.replicate N (zT T)) := m0_rect N (T + 1)
  have hl : (zT T).length = T + 1 := zT_len
  refine ⟨hz.set hX (by rw [List.length_set]; exact hl), fun e => ?_, fun n t hn ht q => ?_⟩
  · subst e
    unfold fol0
    rw [rowB_set (by simpa using hX), if_pos rfl, bth_set (by omega), if_pos rfl]
  · unfold fol0 at q
    rw [rowB_set (by simpa using hX)] at q
    split at q
    · rename_i e; subst e
      rw [bth_set (by omega)] at q
      split at q
      · rename_i e; subst e; exact .ini q
      · rw [zT_nth] at q; cases q
    · rw [row_rep hn, zT_nth] at q; cases q

/-! ### one place of one production -/
/-- M with what stands behind place k put in. -/
def putF (EM : List Bool) (FT : List (List Bool)) (T : Nat) (p : Pr) (k : Nat) (L : List Bool) (M : List (List Bool)) : List (List Bool) :=
  M.set (-1 - nth p.2.1 k).toNat (orB (rowB M (-1 - nth p.2.1 k).toNat) (behR EM FT T (p.2.1.drop (k + 1)) L))
theorem nth_fit {r : List Int} {k : Nat} (h : FitS N T r) (hk : k < r.length) : (nth r k < 0 → (-1 - nth r k).toNat < N) ∧ nth r k < (T : Int) := h _ (by rw [nth_get hk]; exact List.getElem_mem hk)
theorem putF_ok {p : Pr} {i k : Nat} {L : List Bool} {M : List (List Bool)} (hF : Rect N T FT) (hp : ps[i]? = some p) (hf : FitF N T p) (hu : bth u i = true) (hk : k < p.2.1.length) (h0 : nth p.2.1 k < 0)
    (hL : L.length = T + 1) (hs : ∀ t, t < T + 1 → bth L t = true → FolR EM FT ps u X T b p.1.toNat t) (h : FolS EM FT ps u N X T b M) : FolS EM FT ps u N X T b (putF EM FT T p k L M) := by
  have hn := (nth_fit (N := N) (T := T) hf.2 hk).1 h0
  have hr : FitS N T (p.2.1.drop (k + 1)) := FitS.drop (N := N) (T := T) hf.2 (k + 1)
  have hbl := behR_len (EM := EM) hF hr hL
  have hlen := orB_len (h.rect.2 _ hn) hbl
  refine ⟨h.rect.set hn hlen, fun e => ?_, fun n t hnN ht q => ?_⟩
  · have := h.ini e
    unfold putF
    rw [rowB_set (by rw [h.rect.1]; exact hn)]
    split
    · rename_i e2; rw [e2, orB_nth (h.rect.2 _ (e2 ▸ hn)) (hbl) (by omega), this]; rfl
    · exact this
  · unfold putF at q
    rw [rowB_set (by rw [h.rect.1]; exact hn)] at q
    split at q
    · rename_i e2
      rw [orB_nth (h.rect.2 _ hn) hbl ht, behR_nth hF ht hr hL] at q
      simp only [Bool.or_eq_true, Bool.and_eq_true] at q
      rcases q with q | q | ⟨q1, q2⟩
      · rw [e2] at q; exact h.snd n t hnN ht q
      · rw [← e2]; exact .cst hp hu hk h0 q
      · rw [← e2]; exact .nul hp hu hk h0 q1 (hs t ht q2)
    · exact h.snd n t hnN ht q

/-! ### the program's step: from the right to the left -/
def goB (EM : List Bool) (FT : List (List Bool)) (T : Nat) (L : List Bool) : List Int → List (List Bool) → List (List Bool) × Bool
  | [], M => (M, false)
  | s :: r, M =>
    if 0 ≤ s then goB EM FT T L r M
    else ((goB EM FT T L r M).1.set (-1 - s).toNat (orB (rowB (goB EM FT T L r M).1 (-1 - s).toNat) (behR EM FT T r L)), newB (rowB (goB EM FT T L r M).1 (-1 - s).toNat) (behR EM FT T r L) || (goB EM FT T L r M).2)
def stepB (EM u : List Bool) (FT : List (List Bool)) (T : Nat) (i : Nat) (p : Pr) (M : List (List Bool)) : List (List Bool) × Bool :=
  if bth u i = true then goB EM FT T (rowB M p.1.toNat) p.2.1 M else (M, false)
theorem goB_all {L : List Bool} (hF : Rect N T FT) (hL : L.length = T + 1) : ∀ {r : List Int} {M : List (List Bool)}, FitS N T r → Rect N (T + 1) M →
    Rect N (T + 1) (goB EM FT T L r M).1 ∧ muM (goB EM FT T L r M).1 ≤ muM M ∧ ((goB EM FT T L r M).2 = true → muM (goB EM FT T L r M).1 < muM M) ∧ ((goB EM FT T L r M).2 = false → (goB EM FT T L r M).1 = M)
  | [], M, _, hM => ⟨hM, Nat.le_refl _, fun h => (by cases h), fun _ => rfl⟩
  | s :: r, M, hr, hM => by
    obtain ⟨i1, i2, i3, i4⟩ := goB_all hF hL hr.tail hM
    rw [goB]
    split
    · exact ⟨i1, i2, i3, i4⟩
    · rename_i h0
      have hn := (hr s (by simp)).1 (by omega)
      have hbl := behR_len (EM := EM) hF hr.tail hL
      have hrow := i1.2 _ hn
      obtain ⟨m1, m2, m3⟩ := muB_or _ _ (hrow.trans hbl.symm)
      obtain ⟨n1, n2⟩ := muM_set (goB EM FT T L r M).1 (-1 - s).toNat (orB (rowB (goB EM FT T L r M).1 (-1 - s).toNat) (behR EM FT T r L)) (by rw [i1.1]; exact hn) m1
      refine ⟨i1.set hn (orB_len hrow hbl), Nat.le_trans n1 i2, fun h => ?_, fun h => ?_⟩
      · simp only [Bool.or_eq_true] at h
        rcases h with h | h
        · exact Nat.lt_of_lt_of_le (n2 (m2 h)) i2
        · exact Nat.lt_of_le_of_lt n1 (i3 h)
      · simp only [Bool.or_eq_false_iff] at h
        simp only
        rw [m3 h.1, set_rowB (by rw [i1.1]; exact hn), i4 h.2]
theorem goB_ok {p : Pr} {i : Nat} {L : List Bool} {M : List (List Bool)} (hF : Rect N T FT) (hp : ps[i]? = some p) (hf : FitF N T p) (hu : bth u i = true)
    (hL : L.length = T + 1) (hs : ∀ t, t < T + 1 → bth L t = true → FolR EM FT ps u X T b p.1.toNat t) (h : FolS EM FT ps u N X T b M) :
    ∀ (m k : Nat), k + m = p.2.1.length → FolS EM FT ps u N X T b (goB EM FT T L (p.2.1.drop k) M).1
  | 0, k, hk => by rw [List.drop_eq_nil_of_le (by omega)]; exact h
  | m + 1, k, hk => by
    have ih := goB_ok hF hp hf hu hL hs h m (k + 1) (by omega)
    have hkl : k < p.2.1.length := by omega
    rw [List.drop_eq_getElem_cons hkl, ← nth_get hkl, goB]
    split
    · exact ih
    · exact putF_ok hF hp hf hu hkl (by omega) hL hs ih
/-- Where nothing is new, nothing more is to be put in. -/
theorem goB_closed {p : Pr} {M : List (List Bool)} (hF : Rect N T FT) (hf : FitF N T p) (hM : Rect N (T + 1) M) :
    ∀ (m k : Nat), k + m = p.2.1.length → (goB EM FT T (rowB M p.1.toNat) (p.2.1.drop k) M).2 = false → ∀ j, k ≤ j → j < p.2.1.length → FolC EM FT T p j M
  | 0, k, hk, _, j, h1, h2 => by omega
  | m + 1, k, hk, h, j, h1, h2 => by
    have hkl : k < p.2.1.length := by omega
    have hL := hM.2 _ hf.1
    have hr : FitS N T (p.2.1.drop (k + 1)) := FitS.drop (N := N) (T := T) hf.2 (k + 1)
    rw [List.drop_eq_getElem_cons hkl, ← nth_get hkl, goB] at h
    by_cases e : j = k
    · subst e
      intro h0 t ht q
      rw [if_neg (by omega)] at h
      simp only [Bool.or_eq_false_iff] at h
      have hsame := (goB_all (EM := EM) hF hL hr hM).2.2.2 h.2
      rw [hsame] at h
      have hn := (nth_fit (N := N) (T := T) hf.2 hkl).1 h0
      have hbl := behR_len (EM := EM) hF hr hL
      have := (muB_or _ _ ((hM.2 _ hn).trans hbl.symm)).2.2 h.1
      rw [← this, orB_nth (hM.2 _ hn) hbl ht, behR_nth hF ht hr hL, q]
      simp
    · have h' : (goB EM FT T (rowB M p.1.toNat) (p.2.1.drop (k + 1)) M).2 = false := by
        split at h
        · exact h
        · simp only [Bool.or_eq_false_iff] at h; exact h.2
      exact goB_closed hF hf hM m (k + 1) (by omega) h' j (by omega) h2

section
variable (hF : Rect N T FT) (hfit : ∀ p ∈ ps, FitF N T p)
include hF hfit
theorem stepB_same {i : Nat} {p : Pr} {M : List (List Bool)} (hp : ps[i]? = some p) (hM : Rect N (T + 1) M) (h : (stepB EM u FT T i p M).2 = false) : (stepB EM u FT T i p M).1 = M := by
  have hf := hfit _ (List.mem_of_getElem? hp)
  unfold stepB at h ⊢
  split
  · rename_i hu
    rw [if_pos hu] at h
    exact (goB_all (EM := EM) hF (hM.2 _ hf.1) hf.2 hM).2.2.2 h
  · rfl
theorem stepB_mu {i : Nat} {p : Pr} {M : List (List Bool)} (hp : ps[i]? = some p) (hM : Rect N (T + 1) M) : Rect N (T + 1) (stepB EM u FT T i p M).1 ∧ ((stepB EM u FT T i p M).2 = true → muM (stepB EM u FT T i p M).1 < muM M) := by
  have hf := hfit _ (List.mem_of_getElem? hp)
  unfold stepB
  split
  · obtain ⟨a, _, c, _⟩ := goB_all (EM := EM) hF (hM.2 _ hf.1) hf.2 hM
    exact ⟨a, c⟩
  · exact ⟨hM, fun h => (by cases h)⟩
theorem stepB_ok {i : Nat} {p : Pr} {M : List (List Bool)} (hp : ps[i]? = some p) (h : FolS EM FT ps u N X T b M) : FolS EM FT ps u N X T b (stepB EM u FT T i p M).1 := by
  have hf := hfit _ (List.mem_of_getElem? hp)
  unfold stepB
  split
  · rename_i hu
    have := goB_ok hF hp hf hu (h.rect.2 _ hf.1) (fun t ht q => h.snd _ t hf.1 ht q) h p.2.1.length 0 (by omega)
    rwa [List.drop_zero] at this
  · exact h
/-- What the program leaves. -/
theorem stepB_done (hX : X < N) {n : Nat} (hn : (passF (stepB EM u FT T) 0 ps (rounds (stepB EM u FT T) ps n (fol0 N X T b))).2 = false) : FolOk EM FT ps u N X T b (rounds (stepB EM u FT T) ps n (fol0 N X T b)) := by
  have h0 : FolS EM FT ps u N X T b (fol0 N X T b) := fol0_ok hX
  have hS : FolS EM FT ps u N X T b (rounds (stepB EM u FT T) ps n (fol0 N X T b)) := rounds_keep (Q := fun M => FolS EM FT ps u N X T b M) (fun k p y hp hy => stepB_ok hF hfit hp hy) h0 n
  refine FolOk.of hX hfit hS fun i p k hp hu hk => ?_
  have hQ : ∀ k p y, ps[k]? = some p → Rect N (T + 1) y → Rect N (T + 1) (stepB EM u FT T k p y).1 := fun k p y hp hy => (stepB_mu hF hfit hp hy).1
  have hd := hn
  rw [← gd_done hQ h0.rect] at hd
  have hfix := pass_fixed (gd_same (fun k p y hp hy h => stepB_same hF hfit hp hy h)) ps 0 _ hd i p hp
  rw [gd_rounds hQ h0.rect, Nat.zero_add, gd_pos hp hS.rect] at hfix
  unfold stepB at hfix
  rw [if_pos hu] at hfix
  have hf := hfit _ (List.mem_of_getElem? hp)
  exact goB_closed hF hf hS.rect p.2.1.length 0 (by omega) (by rw [List.drop_zero]; exact hfix) k (Nat.zero_le _) hk
end
end

/-! ### the document's step: from the left to the right -/
def goA (EM : List Bool) (FT : List (List Bool)) (T left : Nat) : List Int → List (List Bool) → List (List Bool)
  | [], M => M
  | s :: r, M => if 0 ≤ s then goA EM FT T left r M else goA EM FT T left r (M.set (-1 - s).toNat (foA EM FT T r (rowB M (-1 - s).toNat) (rowB M left)))
def stepA (EM u : List Bool) (FT : List (List Bool)) (T : Nat) (i : Nat) (p : Pr) (M : List (List Bool)) : List (List Bool) × Bool :=
  (if bth u i = true then goA EM FT T p.1.toNat p.2.1 M else M, false)
section
variable {EM u : List Bool} {FT : List (List Bool)} {N T X : Nat} {ps : List Pr} {b : Bool}
theorem foA_put (hF : Rect N T FT) {r : List Int} {a L : List Bool} (hr : FitS N T r) (ha : a.length = T + 1) (hL : L.length = T + 1) : foA EM FT T r a L = orB a (behR EM FT T r L) := by
  have hbl := behR_len (EM := EM) hF hr hL
  refine bth_ext (foA_len hF hr ha hL) (orB_len ha hbl) fun t ht => ?_
  rw [foA_nth hF ht hr ha hL, orB_nth ha hbl ht, behR_nth hF ht hr hL]
theorem goA_rect {left : Nat} (hleft : left < N) (hF : Rect N T FT) : ∀ {r : List Int} {M : List (List Bool)}, FitS N T r → Rect N (T + 1) M → Rect N (T + 1) (goA EM FT T left r M)
  | [], M, _, hM => hM
  | s :: r, M, hr, hM => by
    rw [goA]
    split
    · exact goA_rect hleft hF hr.tail hM
    · have hn := (hr s (by simp)).1 (by omega)
      exact goA_rect hleft hF hr.tail (hM.set hn (foA_len hF hr.tail (hM.2 _ hn) (hM.2 _ hleft)))
theorem goA_ok {p : Pr} {i : Nat} (hF : Rect N T FT) (hp : ps[i]? = some p) (hf : FitF N T p) (hu : bth u i = true) :
    ∀ (m k : Nat) {M : List (List Bool)}, k + m = p.2.1.length → FolS EM FT ps u N X T b M → FolS EM FT ps u N X T b (goA EM FT T p.1.toNat (p.2.1.drop k) M)
  | 0, k, M, hk, h => by rw [List.drop_eq_nil_of_le (by omega)]; exact h
  | m + 1, k, M, hk, h => by
    have hkl : k < p.2.1.length := by omega
    have hr : FitS N T (p.2.1.drop (k + 1)) := FitS.drop (N := N) (T := T) hf.2 (k + 1)
    rw [List.drop_eq_getElem_cons hkl, ← nth_get hkl, goA]
    split
    · exact goA_ok hF hp hf hu m (k + 1) (by omega) h
    · rename_i h0
      have hn := (nth_fit (N := N) (T := T) hf.2 hkl).1 (by omega)
      refine goA_ok hF hp hf hu m (k + 1) (by omega) ?_
      rw [foA_put hF hr (h.rect.2 _ hn) (h.rect.2 _ hf.1)]
      exact putF_ok hF hp hf hu hkl (by omega) (h.rect.2 _ hf.1) (fun t ht q => h.snd _ t hf.1 ht q) h

/-! one terminal -/
def goAC (EM : List Bool) (FT : List (List Bool)) (left t : Nat) : List Int → List Bool → List Bool
  | [], l => l
  | s :: r, l => if 0 ≤ s then goAC EM FT left t r l else goAC EM FT left t r (l.set (-1 - s).toNat (bth l (-1 - s).toNat || (cst EM FT r t || (nul EM r && bth l left))))
def stepAC (EM u : List Bool) (FT : List (List Bool)) (t : Nat) (i : Nat) (p : Pr) (l : List Bool) : List Bool × Bool :=
  if bth u i = true then (goAC EM FT p.1.toNat t p.2.1 l, decide (goAC EM FT p.1.toNat t p.2.1 l ≠ l)) else (l, false)
theorem goA_col {left t : Nat} (hleft : left < N) (ht : t < T + 1) (hF : Rect N T FT) : ∀ {r : List Int} {M : List (List Bool)}, FitS N T r → Rect N (T + 1) M → col t (goA EM FT T left r M) = goAC EM FT left t r (col t M)
  | [], M, _, hM => rfl
  | s :: r, M, hr, hM => by
    rw [goA, goAC]
    split
    · exact goA_col hleft ht hF hr.tail hM
    · have hn := (hr s (by simp)).1 (by omega)
      rw [goA_col hleft ht hF hr.tail (hM.set hn (foA_len hF hr.tail (hM.2 _ hn) (hM.2 _ hleft))), col_set, foA_nth hF ht hr.tail (hM.2 _ hn) (hM.2 _ hleft), col_bth (by rw [hM.1]; exact hn), col_bth (by rw [hM.1]; exact hleft)]
theorem goAC_mu {left t : Nat} : ∀ (r : List Int) (l : List Bool), (∀ s ∈ r, s < 0 → (-1 - s).toNat < l.length) → (goAC EM FT left t r l).length = l.length ∧ muB (goAC EM FT left t r l) ≤ muB l ∧ (goAC EM FT left t r l ≠ l → muB (goAC EM FT left t r l) < muB l)
  | [], l, _ => ⟨rfl, Nat.le_refl _, fun h => absurd rfl h⟩
  | s :: r, l, hl => by
    rw [goAC]
    split
    · exact goAC_mu r l (fun x hx => hl x (List.mem_cons_of_mem _ hx))
    · have hn := hl s (by simp) (by omega)
      obtain ⟨a, b⟩ := set_or (l := l) (k := (-1 - s).toNat) (b := (cst EM FT r t || (nul EM r && bth l left))) hn
      obtain ⟨i1, i2, i3⟩ := goAC_mu (left := left) (t := t) r (l.set (-1 - s).toNat (bth l (-1 - s).toNat || (cst EM FT r t || (nul EM r && bth l left)))) (fun x hx h0 => by rw [List.length_set]; exact hl x (List.mem_cons_of_mem _ hx) h0)
      refine ⟨by rw [i1, List.length_set], Nat.le_trans i2 a, fun h => ?_⟩
      by_cases e : l.set (-1 - s).toNat (bth l (-1 - s).toNat || (cst EM FT r t || (nul EM r && bth l left))) = l
      · rw [e] at i3 h ⊢; exact i3 h
      · exact Nat.lt_of_le_of_lt i2 (b e)
/-- Where nothing is new, nothing more is to be put in. -/
theorem goAC_closed {p : Pr} {t : Nat} {l : List Bool} (hf : ∀ s ∈ p.2.1, s < 0 → (-1 - s).toNat < l.length) :
    ∀ (m k : Nat), k + m = p.2.1.length → goAC EM FT p.1.toNat t (p.2.1.drop k) l = l → ∀ j, k ≤ j → j < p.2.1.length → nth p.2.1 j < 0 → (cst EM FT (p.2.1.drop (j + 1)) t || (nul EM (p.2.1.drop (j + 1)) && bth l p.1.toNat)) = true → bth l (-1 - nth p.2.1 j).toNat = true
  | 0, k, hk, _, j, h1, h2 => by omega
  | m + 1, k, hk, h, j, h1, h2 => by
    have hkl : k < p.2.1.length := by omega
    have hmem : nth p.2.1 k ∈ p.2.1 := by rw [nth_get hkl]; exact List.getElem_mem hkl
    rw [List.drop_eq_getElem_cons hkl, ← nth_get hkl, goAC] at h
    by_cases e0 : 0 ≤ nth p.2.1 k
    · rw [if_pos e0] at h
      by_cases e : j = k
      · subst e; intro h0; omega
      · exact goAC_closed hf m (k + 1) (by omega) h j (by omega) h2
    · rw [if_neg e0] at h
      have hn := hf _ hmem (by omega)
      have hsame : l.set (-1 - nth p.2.1 k).toNat (bth l (-1 - nth p.2.1 k).toNat || (cst EM FT (p.2.1.drop (k + 1)) t || (nul EM (p.2.1.drop (k + 1)) && bth l p.1.toNat))) = l := by
        apply Classical.byContradiction
        intro hne
        obtain ⟨a, b⟩ := set_or (l := l) (k := (-1 - nth p.2.1 k).toNat) (b := (cst EM FT (p.2.1.drop (k + 1)) t || (nul EM (p.2.1.drop (k + 1)) && bth l p.1.toNat))) hn
        have h3 := (goAC_mu (EM := EM) (FT := FT) (left := p.1.toNat) (t := t) (p.2.1.drop (k + 1)) (l.set (-1 - nth p.2.1 k).toNat (bth l (-1 - nth p.2.1 k).toNat || (cst EM FT (p.2.1.drop (k + 1)) t || (nul EM (p.2.1.drop (k + 1)) && bth l p.1.toNat)))) (fun x hx h0 => by rw [List.length_set]; exact hf x (List.mem_of_mem_drop hx) h0)).2.1
        rw [h] at h3
        have := b hne
        omega
      by_cases e : j = k
      · subst e
        intro h0 q
        have := congrArg (fun z => bth z (-1 - nth p.2.1 j).toNat) hsame
        rw [bth_set hn, if_pos rfl, q] at this
        simpa using this.symm
      · rw [hsame] at h
        exact goAC_closed hf m (k + 1) (by omega) h j (by omega) h2
section
variable (hF : Rect N T FT) (hfit : ∀ p ∈ ps, FitF N T p)
include hF hfit
theorem stepA_ok {i : Nat} {p : Pr} {M : List (List Bool)} (hp : ps[i]? = some p) (h : FolS EM FT ps u N X T b M) : FolS EM FT ps u N X T b (stepA EM u FT T i p M).1 := by
  have hf := hfit _ (List.mem_of_getElem? hp)
  unfold stepA
  simp only
  split
  · rename_i hu
    have := goA_ok hF hp hf hu p.2.1.length 0 (by omega) h
    rwa [List.drop_zero] at this
  · exact h
omit hfit in
theorem passA_col {t : Nat} (ht : t < T + 1) : ∀ (qs : List Pr) (i : Nat) (M : List (List Bool)), (∀ p ∈ qs, FitF N T p) → Rect N (T + 1) M → Rect N (T + 1) (passF (stepA EM u FT T) i qs M).1 ∧ col t (passF (stepA EM u FT T) i qs M).1 = (passF (stepAC EM u FT t) i qs (col t M)).1
  | [], i, M, _, hM => ⟨hM, rfl⟩
  | p :: qs, i, M, hq, hM => by
    have hf := hq p (by simp)
    have h1 : Rect N (T + 1) (stepA EM u FT T i p M).1 ∧ col t (stepA EM u FT T i p M).1 = (stepAC EM u FT t i p (col t M)).1 := by
      unfold stepA stepAC
      simp only
      split
      · exact ⟨goA_rect hf.1 hF hf.2 hM, goA_col hf.1 ht hF hf.2 hM⟩
      · exact ⟨hM, rfl⟩
    obtain ⟨h2, h3⟩ := passA_col ht qs (i + 1) _ (fun q hq' => hq q (List.mem_cons_of_mem _ hq')) h1.1
    exact ⟨h2, by rw [passF, passF, h3, h1.2]⟩
theorem roundsA_col {t : Nat} (ht : t < T + 1) {M : List (List Bool)} (hM : Rect N (T + 1) M) : ∀ n, Rect N (T + 1) (rounds (stepA EM u FT T) ps n M) ∧ col t (rounds (stepA EM u FT T) ps n M) = rounds (stepAC EM u FT t) ps n (col t M)
  | 0 => ⟨hM, rfl⟩
  | n + 1 => by
    obtain ⟨h1, h2⟩ := roundsA_col ht hM n
    obtain ⟨h3, h4⟩ := passA_col (EM := EM) (u := u) hF ht ps 0 _ hfit h1
    exact ⟨h3, by rw [rounds, rounds, h4, h2]⟩
/-- What the document leaves. -/
theorem stepA_done (hX : X < N) : FolOk EM FT ps u N X T b (rounds (stepA EM u FT T) ps (N + 1) (fol0 N X T b)) := by
  have h0 : FolS EM FT ps u N X T b (fol0 N X T b) := fol0_ok hX
  have hS : FolS EM FT ps u N X T b (rounds (stepA EM u FT T) ps (N + 1) (fol0 N X T b)) := rounds_keep (Q := fun M => FolS EM FT ps u N X T b M) (fun k p y hp hy => stepA_ok hF hfit hp hy) h0 (N + 1)
  refine FolOk.of hX hfit hS fun i p k hp hu hk => ?_
  intro hs0 t ht q
  have hf := hfit _ (List.mem_of_getElem? hp)
  obtain ⟨hR, hC⟩ := roundsA_col (EM := EM) (u := u) hF hfit ht h0.rect (N + 1)
  have hsame : ∀ i p x, (stepAC EM u FT t i p x).2 = false → (stepAC EM u FT t i p x).1 = x := fun i p x h => by
    unfold stepAC at h ⊢
    split
    · rename_i hu; rw [if_pos hu] at h; simpa using h
    · rfl
  have hmu : ∀ k p y, ps[k]? = some p → y.length = N → (stepAC EM u FT t k p y).1.length = N ∧ ((stepAC EM u FT t k p y).2 = true → muB (stepAC EM u FT t k p y).1 < muB y) := fun k p y hp hy => by
    have hf := hfit _ (List.mem_of_getElem? hp)
    obtain ⟨a, b, c⟩ := goAC_mu (EM := EM) (FT := FT) (left := p.1.toNat) (t := t) p.2.1 y (fun s hs h0 => by rw [hy]; exact (hf.2 s hs).1 h0)
    unfold stepAC
    split
    · exact ⟨by rw [a, hy], fun h => c (by simpa using h)⟩
    · exact ⟨hy, fun h => (by cases h)⟩
  have hlen : (col t (fol0 N X T b)).length = N := by rw [col_len, h0.rect.1]
  have hfm := fix_measure (step := stepAC EM u FT t) (Q := fun l : List Bool => l.length = N) (μ := muB) hsame (ps := ps) hmu hlen
  have hle : muB (col t (fol0 N X T b)) ≤ N + 1 := by have := muB_le (col t (fol0 N X T b)); omega
  have hfx := (rounds_fixed hsame hfm hle).2
  have hpf := pass_fixed hsame ps 0 _ hfx i p hp
  rw [Nat.zero_add, ← hC] at hpf
  have hs := hsame _ _ _ hpf
  unfold stepAC at hs
  rw [if_pos hu] at hs
  have hN1 : ∀ s ∈ p.2.1, s < 0 → (-1 - s).toNat < (col t (rounds (stepA EM u FT T) ps (N + 1) (fol0 N X T b))).length := fun s hs h0 => by rw [col_len, hR.1]; exact (hf.2 s hs).1 h0
  have hn := (nth_fit (N := N) (T := T) hf.2 hk).1 hs0
  have := goAC_closed hN1 p.2.1.length 0 (by omega) (by rw [List.drop_zero]; exact hs) k (Nat.zero_le _) hk hs0 (by rw [col_bth (by rw [hR.1]; exact hf.1)]; exact q)
  rwa [col_bth (by rw [hR.1]; exact hn)] at this
end
end
end Go.Proofs.Ytgfchgnebpogjaa
namespace Go.Proofs.Ytgfchgnebpogjaa
open Go.RowKit Go.Shelf
attribute [local go_sem] Oper.semAt_some
set_option linter.unusedVariables false
set_option linter.unusedSimpArgs false
set_option maxRecDepth 100000

section
variable {α : Type} (f : Nat → α)
/-- f n - 1, .., f k: those that have come when k are left. -/
def upto (n k : Nat) : List α := (List.range (n - k)).map fun i => f (n - 1 - i)
theorem upto_all (n : Nat) : upto f n n = [] := by simp [upto]
theorem upto_len (n k : Nat) : (upto f n k).length = n - k := by simp [upto]
theorem upto_succ {n k : Nat} (hk : k < n) : upto f n k = upto f n (k + 1) ++ [f k] := by
  unfold upto
  rw [show n - k = (n - (k + 1)) + 1 by omega, List.range_succ, List.map_append]
  congr 1
  simp only [List.map_cons, List.map_nil]
  rw [show n - 1 - (n - (k + 1)) = k by omega]
theorem upto_rev (sym : α → Int) (r : List Int) (hf : ∀ k, k < r.length → sym (f k) = nth r k) : ∀ (m k : Nat), k + m = r.length → ((upto f r.length k).map sym).reverse = r.drop k
  | 0, k, h => by
    rw [show k = r.length by omega, upto_all, List.drop_length]; rfl
  | m + 1, k, h => by
    have hk : k < r.length := by omega
    rw [upto_succ f hk, List.map_append, List.reverse_append, upto_rev sym r hf m (k + 1) (by omega), List.drop_eq_getElem_cons hk, ← nth_get hk]
    simp [hf k hk]
end

set_option maxHeartbeats 2000000 in
theorem backward1_in {α : Type} (f : Nat → α) (encs : α → Array Value) (F : Fence) (n : Nat) (h7 : F.fn 77) (hro : F.round = none) (hn : 1 ≤ n) (l Bs b off cap : Nat) (r : List Int) (hreach : r.length ≤ 1000) (hf : ∀ k, k < r.length → encs (f k) = #[.int .i64 (k : Int), .int .i64 (nth r k)]) (J Jx : List α → World → Prop)
    (Kq : World → World → Prop) (hK1 : ∀ A C, Kq A C → ∀ p : Addr, p.block = Bs ∨ p.block = b → C.cell? p = A.cell? p)
    (hY : ∀ pre x W, J pre W → pre.length < r.length → YieldAt F (n - 1) Try.prog l (encs x) W fun e W' =>
      (e = .returned (.bool true) ∧ J (pre ++ [x]) W' ∧ Kq W W') ∨ (e = .returned (.bool false) ∧ Jx (pre ++ [x]) W'))
    (W : World) (hBs : W.cell? ⟨Bs, 0, none⟩ = some (.slice (some ⟨b, off, none⟩) r.length cap)) (hc : ∀ j, j < r.length → W.cell? ⟨b, off + j, none⟩ = some (.int .i64 (nth r j))) (h0 : J [] W) :
    CallsIn F n Try.prog 77 #[.func (.yield l) #[] #[], .pointer (some ⟨Bs, 0, none⟩)] W fun e W' => (∃ v, e = .returned v) ∧
      ((∃ ys, ys = upto f r.length 0 ∧ J ys W') ∨ (∃ pre, (∃ k, k ≤ r.length ∧ pre = upto f r.length k) ∧ Jx pre W')) := by
  refine callsIn_of_wp Try.func77 rfl h7 ?_ hro
  simp only [Try.ntmps77, List.size_toArray, List.length_cons, List.length_nil, Nat.reduceAdd, Nat.reduceSub, Array.replicate_succ, Array.replicate_zero, List.push_toArray, List.append_toArray, List.nil_append, List.cons_append]
  gi_wp2
  gi_loopw [3] (fun i wr => ∃ k : Nat, k ≤ r.length ∧ i = .int .i64 ((k : Int) - 1) ∧ J (upto f r.length k) wr ∧ wr.cell? ⟨Bs, 0, none⟩ = some (.slice (some ⟨b, off, none⟩) r.length cap) ∧ ∀ j, j < r.length → wr.cell? ⟨b, off + j, none⟩ = some (.int .i64 (nth r j))) (fun i _ => (intOf i + 1).toNat)
  case atStart => exact ⟨r.length, Nat.le_refl _, rfl, by rw [upto_all]; exact h0, hBs, hc⟩
  case round =>
    obtain ⟨k, hk, rfl, hJs, hB2, hc2⟩ := hrel
    rcases k with _ | k
    · gi_wp2
      go_end0
      exact ⟨⟨_, rfl⟩, .inl ⟨_, rfl, hJs⟩⟩
    · obtain ⟨fn, tmps, assign, body, hy, hR⟩ := hY _ (f k) wr hJs (by rw [upto_len]; omega)
      rw [hf k (by omega)] at hy
      have hcx := hc2 k (by omega)
      have e1 : ((k + 1 : Nat) : Int) - 1 = (k : Int) := by omega
      rw [e1]
      gi_wp2
      refine hR.mono ?_
      rintro e W3 (⟨rfl, hJ3, hk3⟩ | ⟨rfl, hJx3⟩)
      · have hB3 := (hK1 _ _ hk3 ⟨Bs, 0, none⟩ (.inl rfl)).trans hB2
        have hc3 : ∀ j, j < r.length → W3.cell? ⟨b, off + j, none⟩ = some (.int .i64 (nth r j)) := fun j hj => (hK1 _ _ hk3 ⟨b, off + j, none⟩ (.inr rfl)).trans (hc2 j hj)
        gi_wp2
        go_roundw
        case rel => exact ⟨k, by omega, by first | rfl | go_num, by rw [upto_succ f (by omega)]; exact hJ3, hB3, hc3⟩
        case measure => simp [intOf]
      · gi_wp2
        refine bodyPost_ret (results_none rfl _ _ _) rfl ?_
        exact ⟨⟨_, rfl⟩, .inr ⟨upto f r.length k, ⟨k, by omega, rfl⟩, by rw [upto_succ f (show k < r.length by omega)]; exact hJx3⟩⟩

set_option maxHeartbeats 1000000 in
theorem backward1_nil_in {α : Type} (F : Fence) (n : Nat) (h7 : F.fn 77) (hro : F.round = none) (l Bs cap : Nat) (A : Option Addr) (J : List α → World → Prop) (W : World) (hBs : W.cell? ⟨Bs, 0, none⟩ = some (.slice A 0 cap)) (h0 : J [] W) :
    CallsIn F n Try.prog 77 #[.func (.yield l) #[] #[], .pointer (some ⟨Bs, 0, none⟩)] W fun e W' => (∃ v, e = .returned v) ∧ J [] W' := by
  refine callsIn_of_wp Try.func77 rfl h7 ?_ hro
  simp only [Try.ntmps77, List.size_toArray, List.length_cons, List.length_nil, Nat.reduceAdd, Nat.reduceSub, Array.replicate_succ, Array.replicate_zero, List.push_toArray, List.append_toArray, List.nil_append, List.cons_append]
  gi_wp2
  gi_loopw [3] (fun i wr => i = .int .i64 (-1) ∧ J [] wr) (fun _ _ => 0)
  case atStart => exact ⟨by go_num, h0⟩
  case round =>
    obtain ⟨rfl, hJs⟩ := hrel
    gi_wp2
    go_end0
    exact ⟨⟨_, rfl⟩, hJs⟩

theorem backward_any (A : Option Addr) (len cap : Nat) (w : World) :
    Calls Try.prog 61 #[.slice A len cap] w fun e w' => e = .returned (.func (.func 77) #[] #[.pointer (some ⟨w.heap.size, 0, none⟩)]) ∧ w' = w.alloc (.cells #[.slice A len cap] 22) := by
  go_enter Try.func61, Try.ntmps61
  go_wp2
  go_ret
  exact ⟨rfl, rfl⟩

/-- What 'SeqStopsK' wants. -/
theorem backward_stops {α : Type} (f : Nat → α) (encs : α → Array Value) (F : Fence) (n : Nat) (h7 : F.fn 77) (hro : F.round = none) (hn : 1 ≤ n) (Bs B cap : Nat) (A : Option Addr) (r : List Int) (hreach : r.length ≤ 1000) (hf : ∀ k, k < r.length → encs (f k) = #[.int .i64 (k : Int), .int .i64 (nth r k)])
    (Kq : World → World → Prop) (hK1 : ∀ X Y, Kq X Y → ∀ p : Addr, p.block = Bs ∨ p.block < B → Y.cell? p = X.cell? p) (w : World) (hBs : Bs < w.heap.size) (hB : B ≤ w.heap.size) (hc : w.cell? ⟨Bs, 0, none⟩ = some (.slice A r.length cap)) (hI : RdI w B A r) :
    SeqStopsK F n Try.prog 77 #[.pointer (some ⟨Bs, 0, none⟩)] encs Kq (fun ys => ys = upto f r.length 0) (fun pre => ∃ k, k ≤ r.length ∧ pre = upto f r.length k) r.length w := fun l J Jx W hW _ _ hY h0 => by
  have hc' := (hW.cell (p := ⟨Bs, 0, none⟩) hBs).trans hc
  rcases Nat.eq_zero_or_pos r.length with h | h
  · rw [h] at hc'
    obtain rfl : r = [] := List.length_eq_zero_iff.1 h
    exact (backward1_nil_in F n h7 hro l Bs cap A J W hc' h0).mono fun e W' ⟨he, hj⟩ => ⟨he, .inl ⟨[], rfl, hj⟩⟩
  · have hI2 : RdI W B A r := Rd.below hI (hW.mono hB)
    obtain ⟨b, off, rfl, hb, hcs⟩ := hI2.at_ h
    exact backward1_in f encs F n h7 hro hn l Bs b off cap r hreach hf J Jx Kq (fun X Y hk p hp => hK1 X Y hk p (hp.imp id fun e => by omega)) hY W hc' hcs h0
end Go.Proofs.Ytgfchgnebpogjaa
namespace Go.Proofs.Ytgfchgnebpogjaa
open Go
set_option linter.unusedVariables false

section
variable {P : Program} {ops : Array Oper} {Q : Exit → Act → World → Prop}
/-- Only the end of all operations is a way out. -/
def onlyN (Q : Exit → Act → World → Prop) : Exit → Act → World → Prop := fun e a w => e = .normal ∧ Q e a w
theorem opIn_of_op {r m i : Nat} (hnd : ∀ o, ops[i]? = some o → ∀ c, o.op ≠ .defer c) {K K' : Act → World → Prop} (hK : ∀ a w, K a w → K' a w) {a : Act} {w : World} (h : wpOp P ops (onlyN Q) i K a w) : wpOpIn (Fence.wide.inRound r) m P ops Q i K' a w := by
  unfold wpOp at h
  unfold wpOpIn
  cases ho : ops[i]? with
  | none => rw [ho] at h; exact hK _ _ h
  | some o =>
    rw [ho] at h
    simp only at h ⊢
    split
    · rename_i hw
      rw [if_pos hw] at h
      rcases h with h | ⟨_, a', w', hq⟩
      · unfold Oper.wp at h
        refine ⟨fun _ _ => trivial, ?_⟩
        rw [Oper.semAt_eq _ _ _ (hnd o ho)]
        generalize (execOp a.eval o).run P w = res at h
        cases res with
        | halt x w' => cases x <;> first | exact h.elim | exact absurd h.1 (by simp)
        | ok x w' =>
          cases x with
          | value v => exact hK _ _ h
          | skip => exact hK _ _ h
          | defer d => exact hK _ _ h
          | enter f args =>
            refine ⟨fun q => (by cases q), CallsIn.inRound r (callsIn_wide.2 (Calls.mono h fun e w'' he => ?_))⟩
            cases e with
            | returned v => exact hK _ _ he
            | panicked c => exact absurd he.1 (by simp)
            | outgrown => obtain ⟨a2, w2, hq⟩ := he; exact absurd hq.1 (by simp)
          | row row args =>
            refine ⟨fun q => (by cases q), fun c cs _ => ?_⟩
            obtain ⟨v, w2, h1, h2⟩ := h c cs
            exact ⟨v, w2, hK _ _ h1, stepsIn_wide.2 h2⟩
          | _ => exact h.elim
      · exact absurd hq.1 (by simp)
    · rename_i hw
      rw [if_neg hw] at h
      exact ⟨fun _ _ => trivial, hK _ _ h⟩
theorem anyIn_of_any {md : Region.Mode} {r m : Nat} (hnd : ∀ (i : Nat) (o : Oper), ops[i]? = some o → ∀ c, o.op ≠ .defer c) : ∀ (n : Nat) (listed : Array Bool) (a : Act) (w : World), wpAny P md ops (onlyN Q) n listed a w → wpAnyIn (Fence.wide.inRound r) m P md ops Q n listed a w
  | 0, listed, a, w, h => ⟨h.1, h.2.2⟩
  | n + 1, listed, a, w, h => ⟨fun e => (h.1 e).2, fun i hi => opIn_of_op (hnd i) (fun a w q => anyIn_of_any hnd n _ a w q) (h.2 i hi)⟩
end
def noDefer (l : List Oper) : Bool := l.all fun o => match o.op with | .defer _ => false | _ => true
/-- No operation of the list leaves something for the end. -/
theorem wpIn_region_tail {P : Program} {r m : Nat} {id : Nat} {Q : Exit → Act → World → Prop} {a : Act} {w : World} {l : List Oper} (n : Nat) (hm : P.follows .mixedOrders = true) (hB : Region.lexTailB .any l.toArray n = true)
    (hnB : noDefer l = true)
    (h : wpStill P l.toArray { w with drawn := w.drawn + 1 } (fun a' => wpList P l.toArray (onlyN Q) (l.drop n) a' { w with drawn := w.drawn + 1 }) (l.take n) a) : (Code.region id l.toArray true).wpIn (Fence.wide.inRound r) m P Q a w := by
  have hnd : ∀ (i : Nat) (o : Oper), l.toArray[i]? = some o → ∀ c, o.op ≠ .defer c := fun i o h c e => by
    have := List.all_eq_true.1 hnB o (List.mem_of_getElem? (by simpa using h))
    rw [e] at this
    simp at this
  simp only [Region.lexTailB, Bool.and_eq_true, decide_eq_true_eq] at hB
  obtain ⟨⟨⟨⟨hsel, hn⟩, hs⟩, hc⟩, hlex⟩ := hB
  have hn' : n < l.length := by simpa using hn
  have htl : (l.take n).length = n := by simp; omega
  have hdl : (l.drop n).length = l.toArray.size - n := by simp
  have inv0 : HeadInv .any l.toArray n (Array.replicate l.toArray.size false) :=
    ⟨by simp, fun j oj _ hl => (by rw [getD_replicate_false] at hl; cases hl), fun t _ ht => getD_in (by simpa using ht) (getD_replicate_false _ _)⟩
  have H := wpAnyL_lex (md := .any) (g := l.toArray.size - n) hsel hs hc hn (l.take n) 0 _ a (fun j hj => by
    have hj' : j < n := by rw [htl] at hj; exact hj
    simp [hj']) (by simpa using htl) inv0 (by rw [htl]; exact hlex) h
  refine wpIn_region_any hm (anyIn_of_any hnd _ _ _ _ ?_)
  have := wpAny_of_head (Q' := onlyN Q) (g := l.toArray.size - n) (fun listed a' hL => by
    have := wpAny_of_seq (md := .any) (Q' := onlyN Q) (l.drop n) n listed a' { w with drawn := w.drawn + 1 } (fun j => by simp [List.getElem?_drop]) (by rw [hdl]; exact hL.1) hL.2
    rwa [hdl] at this) _ _ _ H
  rw [htl, show n + (l.toArray.size - n) = l.toArray.size by omega] at this
  exact this
end Go.Proofs.Ytgfchgnebpogjaa
namespace Go.Proofs.Ytgfchgnebpogjaa
open Go.RowKit BigFrame
set_option linter.unusedVariables false
set_option linter.unusedSimpArgs false
set_option maxRecDepth 100000

/-- A block whose first places are the truths a. -/
def BlT (w : World) (g : Nat) (a : List Bool) (tl : List Value) : Prop := Blk w g 4 (bv a ++ tl)
section
variable {w w' : World} {g k : Nat} {a : List Bool} {tl : List Value}
theorem BlT.lt (h : BlT w g a tl) : g < w.heap.size := Blk.lt h
theorem BlT.bcell (h : BlT w g a tl) (hk : k < a.length) : w.cell? ⟨g, k, none⟩ = some (.bool (bth a k)) :=
  Blk.cell h (by rw [List.getElem?_append_left (by rw [bv_len]; exact hk)]; exact bv_get hk)
theorem BlT.frozen (h : BlT w g a tl) (k : Nat) : w.frozen? ⟨g, k, none⟩ = false := Blk.frozen h k
theorem BlT.bset (h : BlT w g a tl) (hk : k < a.length) (b : Bool) : BlT (w.setCell ⟨g, k, none⟩ (.bool b)) g (a.set k b) tl := by
  have := Blk.set_ h k (.bool b)
  rw [List.set_append_left k _ (by rw [bv_len]; exact hk), bv_set] at this
  exact this
theorem BlT.keep {S : Nat → Prop} (h : BlT w g a tl) (hk : Kp S w w') (hs : ¬ S g) : BlT w' g a tl := (hk.block g h.lt hs).trans h
theorem BlT.of (h : Blk w g 4 (bv a)) : BlT w g a [] := by unfold BlT; rw [List.append_nil]; exact h
theorem BlT.to (h : BlT w g a []) : Blk w g 4 (bv a) := by unfold BlT at h; rwa [List.append_nil] at h
end

set_option maxHeartbeats 1000000 in
theorem add_wide (bt bf T T1 ct cc : Nat) (a c : List Bool) (ta tc : List Value) (w : World) (hT : T ≤ T1) (hT1 : T1 ≤ 1000) (hne : bt ≠ bf) (ha : BlT w bt a ta) (hc : BlT w bf c tc) (hct : T1 ≤ ct) (hcc : T ≤ cc) (la : a.length = T1) (lc : c.length = T) :
    Calls Try.prog 62 #[.slice (some ⟨bt, 0, none⟩) T1 ct, .slice (some ⟨bf, 0, none⟩) T cc] w fun e w' => e = .returned (.bool (newK a c T)) ∧ BlT w' bt (orK a c T) ta ∧ Kp (fun j => j = bt) w w' := by
  have HA := Lib.hid ha; have HC := Lib.hid hc; have LA := Lib.hid la; have LC := Lib.hid lc
  have hbf := hc.lt
  clear ha hc la lc
  go_enter Try.func62, Try.ntmps62
  go_wp2_with fail
  go_loopw [5, 10] (fun v i wr => ∃ k : Nat, ∃ q : Bool, k ≤ T ∧ i = .int .i64 k ∧ v = .bool q ∧ Hid (q = newK a c k) ∧ Kp (fun j => j = bt) w wr ∧ Hid (BlT wr bt (orK a c k) ta)) (fun _ i _ => T - (intOf i).toNat)
  case atStart => exact ⟨0, false, Nat.zero_le _, rfl, rfl, rfl, Kp.refl _ _, by show BlT _ _ _ _; rw [orK_zero]; exact HA.out⟩
  case round =>
    obtain ⟨k, q, hk, rfl, rfl, HQ, hkp, HB⟩ := hrel
    by_cases hlt : k < T
    · have zc := (hkp.cell (p := ⟨bf, k, none⟩) hbf (fun e => hne e.symm)).trans (HC.out.bcell (k := k) (by rw [LC.out]; exact hlt))
      have zt := HB.out.bcell (k := k) (by rw [orK_len2 LA.out LC.out hT hk]; omega)
      have zf := HB.out.frozen k
      rw [orK_nth2 LA.out LC.out hT hk (by omega), if_neg (by omega)] at zt
      have hsn := newK_snoc2 (a := a) (c := c) (k := k) (by rw [LA.out]; omega) (by rw [LC.out]; exact hlt)
      rw [← HQ.out] at hsn
      have hos := orK_step2 LA.out LC.out hT hlt
      have hsame : (bth a k || bth c k) = bth a k → orK a c (k + 1) = orK a c k := fun e => by
        rw [hos, e]
        apply List.ext_getElem
        · simp
        · intro i h1 h2
          rw [List.getElem_set]
          split
          · rename_i e2; subst e2
            rw [← bth_get h2, orK_nth2 LA.out LC.out hT hk (by omega), if_neg (by omega)]
          · rfl
      cases hcv : bth c k
      · rw [hcv] at zc hsn
        have HS := Lib.hid hsn
        have HB1 : Hid (BlT wr bt (orK a c (k + 1)) ta) := Lib.hid (by rw [hsame (by rw [hcv]; simp)]; exact HB.out)
        clear hsn hcv hos hsame
        generalize bth a k = av at zt
        go_wp2
        go_roundw
        case rel => exact ⟨k + 1, q, by omega, by go_num, rfl, by show q = _; rw [HS.out]; simp, hkp, HB1⟩
        case measure => simp [intOf]; omega
      · cases hav : bth a k
        · rw [hcv] at zc hsn
          rw [hav] at zt hsn
          have HS := Lib.hid hsn
          have HOS := Lib.hid hos
          rw [hav, hcv] at HOS
          clear hsn hcv hav hos hsame
          go_wp2
          go_roundw
          case rel => exact ⟨k + 1, true, by omega, by go_num, rfl, by show true = _; rw [HS.out]; simp, hkp.set_ (.inr rfl) _, by show BlT _ _ _ _; rw [HOS.out]; exact HB.out.bset (by rw [orK_len2 LA.out LC.out hT hk]; omega) true⟩
          case measure => simp [intOf]; omega
        · rw [hcv] at zc hsn
          rw [hav] at zt hsn
          have HS := Lib.hid hsn
          have HB1 : Hid (BlT wr bt (orK a c (k + 1)) ta) := Lib.hid (by rw [hsame (by rw [hav]; simp)]; exact HB.out)
          clear hsn hcv hav hos hsame
          go_wp2
          go_roundw
          case rel => exact ⟨k + 1, q, by omega, by go_num, rfl, by show q = _; rw [HS.out]; simp, hkp, HB1⟩
          case measure => simp [intOf]; omega
    · have hkT : k = T := by omega
      have HQ2 : Hid (newK a c T = q) := Lib.hid (by rw [← hkT]; exact HQ.out.symm)
      have HB2 : Hid (BlT wr bt (orK a c T) ta) := Lib.hid (by rw [← hkT]; exact HB.out)
      clear hkT
      go_wp2
      go_ret
      exact ⟨ret_eq (by rw [HQ2.out]; rfl), HB2.out, hkp⟩

set_option maxHeartbeats 1000000 in
/-- slices.Clone of truths (not nil, not empty). -/
theorem clone_any (bf T : Nat) (c : List Bool) (w : World) (hT : T ≤ 1000) (hc : Blk w bf 4 (bv c)) (lc : c.length = T) (h0 : 0 < T) :
    Calls Try.prog 60 #[.slice (some ⟨bf, 0, none⟩) T T] w fun e w' => ∃ g cap tl, e = .returned (.slice (some ⟨g, 0, none⟩) T cap) ∧ T ≤ cap ∧ w.heap.size ≤ g ∧ BlT w' g c tl ∧ Below w.heap.size w w' := by
  have HC := Lib.hid hc
  clear hc
  have hnil : ∀ w : World, (binOp .eql 38 (.slice (some ⟨bf, 0, none⟩) T T) (.slice none 0 0)).run Try.prog w = .ok (.bool false) w := fun _ => rfl
  have hrd : Rd (w.alloc (.cells #[] 4)) w.heap.size (some ⟨bf, 0, none⟩) (bv c) := fun _ => ⟨bf, 0, rfl, HC.out.lt, fun j u hu => by
    rw [Nat.zero_add]; exact (HC.out.alloc _).cell hu⟩
  have hob : (w.alloc (.cells #[] 4)).ownsRow w.heap.size 4 1 (.slice (some ⟨w.heap.size, 0, none⟩) 0 0) 0 [] :=
    ⟨rfl, .inr ⟨w.heap.size, 0, #[], rfl, Nat.le_refl _, heap_alloc_new w _, Nat.le_refl _, by unfold maxLen; omega, rfl, rfl⟩⟩
  have HR := Lib.hid hrd; have HO := Lib.hid hob
  have h1 : ∀ u ∈ bv c, u.oneCell' = true := fun u hu => by
    obtain ⟨b, _, rfl⟩ := List.mem_map.1 hu; rfl
  have hlb : (bv c).length = T * 1 := by rw [bv_len, lc, Nat.mul_one]
  have H1 := Lib.hid h1; have HLB := Lib.hid hlb
  clear hrd hob h1 hlb
  go_enter Try.func60, Try.ntmps60
  go_wp2_with (at_builtin; refine wpList_app_rd elBg rfl (.tmp 5) (.tmp 6) rfl w.heap.size _ 0 T T w.heap.size (some ⟨bf, 0, none⟩) [] (bv c) rfl HO.out rfl HLB.out HR.out H1.out (by omega) (by omega) (by simp) ?_; intro v1 w1 hown1 hg1 hat1)
  go_ret
  rw [Nat.zero_add, List.nil_append] at hown1
  have hb1 : Below w.heap.size w w1 := ((Below.refl w.heap.size w).alloc (Nat.le_refl _) (.cells #[] 4)).grown hg1 (by simp) (fun k hk => by cases hk; exact Nat.le_refl _)
  rcases hown1.2 with ⟨_, h⟩ | ⟨g, cap, cur, rfl, hge, hg, hn, hc2, hcs, htk⟩
  · omega
  · refine ⟨g, cap, cur.toList.drop T, rfl, hn, hge, ?_, hb1⟩
    show w1.heap[g]? = _
    rw [hg]
    congr 3
    apply Array.ext'
    simp only [Nat.mul_one] at htk
    rw [← htk]
    simp
end Go.Proofs.Ytgfchgnebpogjaa
