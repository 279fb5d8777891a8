/- Plain: the document's way of one step of First. No program here. -/
import Derived.Test.YtgfchgnebpogjaaZ11
namespace Go.Proofs.Ytgfchgnebpogjaa
set_option linter.unusedVariables false
set_option linter.unusedSimpArgs false

theorem goF_fst {emp : List Bool} {t : Nat} : ∀ (r : List Int) (M : List (List Bool)) (q q' : Bool), (goF emp t r M q).1 = (goF emp t r M q').1
  | [], M, q, q' => rfl
  | s :: r, M, q, q' => by
    simp only [goF]
    split
    · rfl
    · split
      · exact goF_fst r _ _ _
      · rfl
theorem orK_step {a c : List Bool} {T k : Nat} (ha : a.length = T) (hc : c.length = T) (hk : k < T) : orK a c (k + 1) = (orK a c k).set k (bth a k || bth c k) := by
  have hb : bth (orK a c k) k = bth a k := by rw [orK_nth ha hc (by omega) hk, if_neg (by omega)]
  have hl : k < (orK a c k).length := by rw [orK_len ha hc (by omega)]; exact hk
  have hset : ∀ b, bth a k = b → (orK a c k).set k b = orK a c k := fun b e => by
    apply List.ext_getElem
    · simp
    · intro i h1 h2
      rw [List.getElem_set]
      split
      · rename_i e'; subst e'; rw [← e, ← hb, bth_get hl]
      · rfl
  cases hcv : bth c k
  · rw [orK_same ha hc hk (.inl hcv), Bool.or_false, hset _ rfl]
  · rw [orK_set ha hc hk hcv, Bool.or_true]
end Go.Proofs.Ytgfchgnebpogjaa
