/- Plain: numbers of parts given one behind the other. No program here. · A region of many orders, all of which come to one end; three operations of which any may come. -/
import Derived.Test.YthikgdogfkjioaaGreatDoorQ40
import Derived.Test.YthikgdogfkjioaaGreatDoorQ12
import Derived.Test.YthikgdogfkjioaaGreatDoorQ22
namespace Go.Proofs.YthikgdogfkjioaaGreatDoor
set_option linter.unusedVariables false
set_option linter.unusedSimpArgs false

theorem rev_ind {α : Type} {P : List α → Prop} (h0 : P []) (h1 : ∀ l a, P l → P (l ++ [a])) (l : List α) : P l := by
  rw [← List.reverse_reverse l]
  induction l.reverse with
  | nil => exact h0
  | cons a r ih => rw [List.reverse_cons]; exact h1 _ _ ih
section
variable {κ : Type} [DecidableEq κ]
/-- The number of x, if it has one. -/
def numO (l : List κ) (x : κ) : Option Nat := if x ∈ l then some (numK l x) else none
theorem distinct_pre (l r : List κ) : ∃ t, distinct (l ++ r) = distinct l ++ t := by
  refine rev_ind (P := fun r => ∃ t, distinct (l ++ r) = distinct l ++ t) ⟨[], by simp⟩ (fun r k ih => ?_) r
  · obtain ⟨t, ht⟩ := ih
    rw [← List.append_assoc, distinct_snoc, ht]
    unfold addK
    split
    · exact ⟨t, rfl⟩
    · exact ⟨t ++ [k], by rw [List.append_assoc]⟩
theorem numK_append {l r : List κ} {x : κ} (h : x ∈ l) : numK (l ++ r) x = numK l x := by
  obtain ⟨t, ht⟩ := distinct_pre l r
  unfold numK
  rw [ht, List.idxOf_append, if_pos (mem_distinct.2 h)]
theorem distinct_old {l : List κ} {k : κ} (h : k ∈ l) : distinct (l ++ [k]) = distinct l := by
  rw [distinct_snoc]; unfold addK; rw [if_pos (mem_distinct.2 h)]
theorem distinct_new {l : List κ} {k : κ} (h : k ∉ l) : distinct (l ++ [k]) = distinct l ++ [k] := by
  rw [distinct_snoc]; unfold addK; rw [if_neg (fun q => h (mem_distinct.1 q))]
theorem numK_new {l : List κ} {k : κ} (h : k ∉ l) : numK (l ++ [k]) k = (distinct l).length := by
  unfold numK
  rw [distinct_new h, List.idxOf_append, if_neg (fun q => h (mem_distinct.1 q))]
  simp
theorem numO_old {l : List κ} {k : κ} (h : k ∈ l) (x : κ) : numO (l ++ [k]) x = numO l x := by
  unfold numO
  by_cases hx : x ∈ l
  · rw [if_pos hx, if_pos (List.mem_append_left _ hx), numK_append hx]
  · rw [if_neg hx, if_neg]
    intro q
    rcases List.mem_append.1 q with q | q
    · exact hx q
    · rw [List.mem_singleton] at q; subst q; exact hx h
theorem numO_new {l : List κ} {k : κ} (h : k ∉ l) (x : κ) : numO (l ++ [k]) x = if x = k then some (distinct l).length else numO l x := by
  unfold numO
  by_cases e : x = k
  · subst e
    rw [if_pos rfl, if_pos (by simp), numK_new h]
  · rw [if_neg e]
    by_cases hx : x ∈ l
    · rw [if_pos hx, if_pos (List.mem_append_left _ hx), numK_append hx]
    · rw [if_neg hx, if_neg]
      intro q
      rcases List.mem_append.1 q with q | q
      · exact hx q
      · rw [List.mem_singleton] at q; exact e q
theorem distinct_map {ι : Type} [DecidableEq ι] {f : κ → ι} (hf : ∀ a b, f a = f b → a = b) (l : List κ) : distinct (l.map f) = (distinct l).map f := by
  refine rev_ind (P := fun l => distinct (l.map f) = (distinct l).map f) rfl (fun l k ih => ?_) l
  · rw [List.map_append, List.map_cons, List.map_nil]
    by_cases h : k ∈ l
    · rw [distinct_old h, distinct_old (List.mem_map_of_mem h), ih]
    · rw [distinct_new h, distinct_new (fun q => by
        obtain ⟨a, ha, e⟩ := List.mem_map.1 q
        rw [hf _ _ e] at ha; exact h ha), ih, List.map_append]; rfl
theorem idxOf_map {ι : Type} [DecidableEq ι] {f : κ → ι} (hf : ∀ a b, f a = f b → a = b) (l : List κ) (x : κ) : (l.map f).idxOf (f x) = l.idxOf x := by
  induction l with
  | nil => rfl
  | cons a l ih =>
    have e : (f a == f x) = (a == x) := by
      rw [Bool.eq_iff_iff]
      simp only [beq_iff_eq]
      exact ⟨hf _ _, congrArg f⟩
    rw [List.map_cons, List.idxOf_cons, List.idxOf_cons, ih, e]
theorem numK_map {ι : Type} [DecidableEq ι] {f : κ → ι} (hf : ∀ a b, f a = f b → a = b) (l : List κ) (x : κ) : numK (l.map f) (f x) = numK l x := by
  unfold numK; rw [distinct_map hf, idxOf_map hf]
end
/-- The first i of a list that is given by its elements. -/
theorem range_snoc {α : Type} (f : Nat → α) (i : Nat) : (List.range (i + 1)).map f = (List.range i).map f ++ [f i] := by
  rw [List.range_succ, List.map_append]; rfl
theorem numK_range {κ : Type} [DecidableEq κ] (f : Nat → κ) {i m : Nat} (h : i < m) : numK ((List.range m).map f) (f i) = numK ((List.range (i + 1)).map f) (f i) := by
  have e : (List.range m).map f = (List.range (i + 1)).map f ++ ((List.range m).map f).drop (i + 1) := by
    have h1 : ((List.range m).map f).take (i + 1) = (List.range (i + 1)).map f := by
      rw [← List.map_take]
      rw [List.take_range, Nat.min_eq_left (by omega)]
    rw [← h1, List.take_append_drop]
  rw [e, numK_append]
  rw [range_snoc]; simp
end Go.Proofs.YthikgdogfkjioaaGreatDoor
namespace Go.Proofs.YthikgdogfkjioaaGreatDoor
open Go
set_option linter.unusedVariables false
set_option linter.unusedSimpArgs false

section
variable {P : Program} {ops : Array Oper} {md : Region.Mode} {Q : Exit → Act → World → Prop} {S : World → Prop}
/-- What holds behind the statement, said of the slots ahead of it. -/
theorem wp_post {c : Code} {a : Act} {w : World} (Post : Act → Act → World → Prop) (h : c.wp P (fun e a' w' => e = .normal ∧ Post a a' w') a w) (k : ∀ a' w', Post a a' w' → Q .normal a' w') : c.wp P Q a w :=
  Code.wp_mono (fun e a' w' h => by obtain ⟨rfl, h⟩ := h; exact k _ _ h) h
/-- One of three may come. -/
theorem threeS {w : World} {l : List Oper} {a : Act} {listed : Array Bool} (f i j m : Nat) (hB : decide (Region.ready md l.toArray listed = [i, j, m]) = true) (hi : i < l.length) (hj : j < l.length) (hm : m < l.length)
    (h : wpList P l.toArray (Exit.then (fun a' w' => S w' ∧ wpAnyS P md l.toArray Q S f (listed.setIfInBounds i true) a' w') Q) ((l.drop i).take 1) a w)
    (h' : wpList P l.toArray (Exit.then (fun a' w' => S w' ∧ wpAnyS P md l.toArray Q S f (listed.setIfInBounds j true) a' w') Q) ((l.drop j).take 1) a w)
    (h'' : wpList P l.toArray (Exit.then (fun a' w' => S w' ∧ wpAnyS P md l.toArray Q S f (listed.setIfInBounds m true) a' w') Q) ((l.drop m).take 1) a w) : wpAnyS P md l.toArray Q S (f + 1) listed a w := by
  have hr := of_decide_eq_true hB
  have key : ∀ k (hk : k < l.length), wpList P l.toArray (Exit.then (fun a' w' => S w' ∧ wpAnyS P md l.toArray Q S f (listed.setIfInBounds k true) a' w') Q) ((l.drop k).take 1) a w → wpOp P l.toArray Q k (fun a' w' => S w' ∧ wpAnyS P md l.toArray Q S f (listed.setIfInBounds k true) a' w') a w := fun k hk hw => by
    have hop : l.toArray[k]? = some (l[k]'hk) := by simp
    refine wpOp_of_list hop ?_
    have h1 : (l.drop k).take 1 = [l[k]'hk] := by rw [List.drop_eq_getElem_cons hk]; rfl
    rw [← h1]
    exact hw
  refine ⟨by rw [hr]; simp, fun k hk => ?_⟩
  rw [hr] at hk
  simp only [List.mem_cons, List.not_mem_nil, or_false] at hk
  rcases hk with rfl | rfl | rfl
  · exact key k hi h
  · exact key k hj h'
  · exact key k hm h''
end
end Go.Proofs.YthikgdogfkjioaaGreatDoor
