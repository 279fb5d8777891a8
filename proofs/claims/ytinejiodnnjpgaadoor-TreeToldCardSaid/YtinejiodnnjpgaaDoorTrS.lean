/- The document's leaves, the program's sound: a tree of a symbol with these leaves. -/
import Derived.Test.YtinejiodnnjpgaaDoorTrM
import Derived.Test.YtinejiodnnjpgaaDoorGrS
import Derived.Test.YtinejiodnnjpgaaDoorQtl
import Derived.Deep.QuietTactic
import Derived.BigQuiet
namespace Go.Proofs.YtinejiodnnjpgaaDoor
open Go.RowKit BigFrame
set_option linter.unusedVariables false
set_option linter.unusedSimpArgs false
set_option maxRecDepth 100000

/-! ### plain -/
def prodAt (G : Gr) (p : Int) : Prd := G.prods.getD p.toNat (0, [], 0)
def leafOk (p tok : Int) (nk : Nat) (s : Int) (l : List Int) (at_ : Nat) : Prop := p = -1 ∧ nk = 0 ∧ tok = at_ ∧ at_ < l.length ∧ nth l at_ = s
def nodeOk (G : Gr) (p tok : Int) (nk : Nat) (s : Int) : Prop := 0 ≤ p ∧ p < (G.prods.length : Int) ∧ tok = 0 ∧ (prodAt G p).1 = -1 - s ∧ (prodAt G p).2.1.length = nk
instance (p tok : Int) (nk : Nat) (s : Int) (l : List Int) (at_ : Nat) : Decidable (leafOk p tok nk s l at_) := by unfold leafOk; infer_instance
instance (G : Gr) (p tok : Int) (nk : Nat) (s : Int) : Decidable (nodeOk G p tok nk s) := by unfold nodeOk; infer_instance
mutual
def lvT (G : Gr) (l : List Int) : Tr → Int → Nat → Option Nat
  | .nil, _, _ => none
  | .node p tok ks, s, at_ => if 0 ≤ s then (if leafOk p tok ks.length s l at_ then some (at_ + 1) else none) else (if nodeOk G p tok ks.length s then lvL G l ks (prodAt G p).2.1 at_ else none)
def lvL (G : Gr) (l : List Int) : List Tr → List Int → Nat → Option Nat
  | [], _, at_ => some at_
  | k :: ks, r, at_ => match lvT G l k (r.headD 0) at_ with
    | none => none
    | some a => lvL G l ks r.tail a
end
mutual
theorem lvT_le (G : Gr) (l : List Int) : ∀ (t : Tr) (s : Int) (at_ a : Nat), at_ ≤ l.length → lvT G l t s at_ = some a → a ≤ l.length
  | .nil, s, at_, a, h, e => by rw [lvT] at e; cases e
  | .node p tok ks, s, at_, a, h, e => by
    rw [lvT] at e
    split at e
    · split at e
      · rename_i q
        cases e
        exact q.2.2.2.1
      · cases e
    · split at e
      · exact lvL_le G l ks _ at_ a h e
      · cases e
theorem lvL_le (G : Gr) (l : List Int) : ∀ (ks : List Tr) (r : List Int) (at_ a : Nat), at_ ≤ l.length → lvL G l ks r at_ = some a → a ≤ l.length
  | [], r, at_, a, h, e => by rw [lvL] at e; cases e; exact h
  | k :: ks, r, at_, a, h, e => by
    rw [lvL] at e
    split at e
    · cases e
    · rename_i b hb
      exact lvL_le G l ks _ b a (lvT_le G l k _ at_ b h hb) e
end
/-- The kids from the i-th on. -/
theorem lvL_step (G : Gr) (l : List Int) (ks : List Tr) (r : List Int) (i at_ : Nat) (k : Tr) (hk : ks[i]? = some k) (hl : r.length = ks.length) :
    lvL G l (ks.drop i) (r.drop i) at_ = match lvT G l k (nth r i) at_ with | none => none | some a => lvL G l (ks.drop (i + 1)) (r.drop (i + 1)) a := by
  have hi := (List.getElem?_eq_some_iff.1 hk).1
  have e : ks[i] = k := (List.getElem?_eq_some_iff.1 hk).2
  rw [List.drop_eq_getElem_cons hi, e, lvL]
  have hr : i < r.length := by omega
  have h1 : (r.drop i).headD 0 = nth r i := by rw [List.drop_eq_getElem_cons hr, nth_get hr]; rfl
  have h2 : (r.drop i).tail = r.drop (i + 1) := by rw [List.drop_eq_getElem_cons hr]; rfl
  rw [h1, h2]
/-- As an int: -1 where there is none. -/
def optI : Option Nat → Int
  | none => -1
  | some a => (a : Int)
end Go.Proofs.YtinejiodnnjpgaaDoor
