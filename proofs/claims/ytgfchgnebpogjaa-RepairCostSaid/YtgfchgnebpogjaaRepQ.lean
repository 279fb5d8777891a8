/- Plain: the tables of both packages' Cost. -/
import Derived.Test.YtgfchgnebpogjaaRepA
import Derived.Test.YtgfchgnebpogjaaRepP
namespace Go.Proofs.Ytgfchgnebpogjaa
set_option linter.unusedVariables false
set_option linter.unusedSimpArgs false

def nthI (P : List Int) (t : Int) : Int := nth P t.toNat
theorem costs_nth {P : List Int} (h : P.all costB = true) (t : Int) : 0 ≤ nthI P t ∧ nthI P t ≤ 1000 := by
  unfold nthI
  by_cases hk : t.toNat < P.length
  · have := List.all_eq_true.1 h _ (List.getElem_mem hk)
    rw [costB_iff] at this
    rw [nth_get hk]; omega
  · have : nth P t.toNat = 0 := by unfold nth; rw [List.getD, List.getElem?_eq_none (by omega)]; rfl
    omega

theorem rev_take {l : List Int} {k : Nat} (h : k < l.length) : (l.take (k + 1)).reverse = nth l k :: (l.take k).reverse := by
  rw [List.take_succ_eq_append_getElem h, nth_get h]; simp
theorem drop_at {l : List Int} {k : Nat} (h : k < l.length) : l.drop k = nth l k :: l.drop (k + 1) := by
  rw [nth_get h]; exact List.drop_eq_getElem_cons h

section
variable {P L F T : List Int} {i j : Nat}
/-- From the beginning: the first i of F turned into the first j of T. -/
def ed (P L F T : List Int) (i j : Nat) : Int := edit (nthI P) (nthI L) (F.take i).reverse (T.take j).reverse
theorem ed_00 : ed P L F T 0 0 = 0 := by unfold ed; simp [edit]
theorem ed_0s (h : j < T.length) : ed P L F T 0 (j + 1) = ed P L F T 0 j + nthI P (nth T j) := by
  unfold ed; rw [rev_take h]; simp only [List.take_zero, List.reverse_nil]; rw [edit]
theorem ed_s0 (h : i < F.length) : ed P L F T (i + 1) 0 = ed P L F T i 0 + nthI L (nth F i) := by
  unfold ed; rw [rev_take h]; simp only [List.take_zero, List.reverse_nil]; rw [edit]
theorem ed_eq (hi : i < F.length) (hj : j < T.length) (e : nth F i = nth T j) : ed P L F T (i + 1) (j + 1) = min (min (ed P L F T i (j + 1) + nthI L (nth F i)) (ed P L F T (i + 1) j + nthI P (nth T j))) (ed P L F T i j) := by
  unfold ed; rw [rev_take hi, rev_take hj, edit, if_pos e]
theorem ed_ne (hi : i < F.length) (hj : j < T.length) (e : nth F i ≠ nth T j) : ed P L F T (i + 1) (j + 1) = min (ed P L F T i (j + 1) + nthI L (nth F i)) (ed P L F T (i + 1) j + nthI P (nth T j)) := by
  unfold ed; rw [rev_take hi, rev_take hj, edit, if_neg e]
theorem ed_bound (hP : P.all costB = true) (hL : L.all costB = true) (i j : Nat) : 0 ≤ ed P L F T i j ∧ ed P L F T i j ≤ 1000 * (i + j : Nat) := by
  have h := edit_bound (nthI P) (nthI L) (costs_nth hP) (costs_nth hL) _ (F.take i).reverse (T.take j).reverse (Nat.le_refl _)
  refine ⟨h.1, Int.le_trans h.2 ?_⟩
  simp only [List.length_reverse, List.length_take]
  omega
theorem ed_end {n m : Nat} (hF : F.length = n) (hT : T.length = m) : ed P L F T n m = edit (nthI P) (nthI L) F T := by
  unfold ed; rw [List.take_of_length_le (by omega), List.take_of_length_le (by omega), edit_rev]

/-- From the end: F from i on turned into T from j on. -/
def eb (P L F T : List Int) (i j : Nat) : Int := edit (nthI P) (nthI L) (F.drop i) (T.drop j)
theorem eb_nn (hi : F.length = i) (hj : T.length = j) : eb P L F T i j = 0 := by
  unfold eb; rw [List.drop_eq_nil_of_le (by omega), List.drop_eq_nil_of_le (by omega), edit]
theorem eb_ns (hi : F.length = i) (hj : j < T.length) : eb P L F T i j = eb P L F T i (j + 1) + nthI P (nth T j) := by
  have e : F.drop i = [] := List.drop_eq_nil_of_le (by omega)
  unfold eb; rw [e, drop_at hj, edit]
theorem eb_sn (hi : i < F.length) (hj : T.length = j) : eb P L F T i j = eb P L F T (i + 1) j + nthI L (nth F i) := by
  have e : T.drop j = [] := List.drop_eq_nil_of_le (by omega)
  unfold eb; rw [drop_at hi, e, edit]
theorem eb_eq (hi : i < F.length) (hj : j < T.length) (e : nth F i = nth T j) : eb P L F T i j = min (min (eb P L F T (i + 1) j + nthI L (nth F i)) (eb P L F T i (j + 1) + nthI P (nth T j))) (eb P L F T (i + 1) (j + 1)) := by
  unfold eb; rw [drop_at hi, drop_at hj, edit, if_pos e]
theorem eb_ne (hi : i < F.length) (hj : j < T.length) (e : nth F i ≠ nth T j) : eb P L F T i j = min (eb P L F T (i + 1) j + nthI L (nth F i)) (eb P L F T i (j + 1) + nthI P (nth T j)) := by
  unfold eb; rw [drop_at hi, drop_at hj, edit, if_neg e]
theorem eb_bound (hP : P.all costB = true) (hL : L.all costB = true) (i j : Nat) : 0 ≤ eb P L F T i j ∧ eb P L F T i j ≤ 1000 * (F.length + T.length : Nat) := by
  have h := edit_bound (nthI P) (nthI L) (costs_nth hP) (costs_nth hL) _ (F.drop i) (T.drop j) (Nat.le_refl _)
  refine ⟨h.1, Int.le_trans h.2 ?_⟩
  simp only [List.length_drop]
  omega
theorem eb_0 : eb P L F T 0 0 = edit (nthI P) (nthI L) F T := by unfold eb; simp
end

/-- What both answer. -/
def costA (P L F T : List Int) : Int :=
  if P.all costB = true ∧ L.all costB = true ∧ F.all (insB (min P.length L.length)) = true ∧ T.all (insB (min P.length L.length)) = true ∧ F.length ≤ 1000 ∧ T.length ≤ 1000 then edit (nthI P) (nthI L) F T else -1
end Go.Proofs.Ytgfchgnebpogjaa
