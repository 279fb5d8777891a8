/- Plain: with which terminals the sentences of each name begin: one step. No program here. -/
import Derived.Test.YtgfchgnebpogjaaLvP
import Derived.Test.YtgfchgnebpogjaaMt
namespace Go.Proofs.Ytgfchgnebpogjaa
set_option linter.unusedVariables false
set_option linter.unusedSimpArgs false

/-- The symbols of a right side, one by one; q: was there something new? -/
def goF (emp : List Bool) (left : Nat) : List Int → List (List Bool) → Bool → List (List Bool) × Bool
  | [], M, q => (M, q)
  | s :: r, M, q =>
    if 0 ≤ s then (M.set left ((rowB M left).set s.toNat true), q || !bth (rowB M left) s.toNat)
    else if bth emp (-1 - s).toNat = true then goF emp left r (M.set left (orB (rowB M left) (rowB M (-1 - s).toNat))) (newB (rowB M left) (rowB M (-1 - s).toNat) || q)
    else (M.set left (orB (rowB M left) (rowB M (-1 - s).toNat)), newB (rowB M left) (rowB M (-1 - s).toNat) || q)
def stepF (lives emp : List Bool) (_ : Nat) (p : Pr) (M : List (List Bool)) : List (List Bool) × Bool :=
  if p.2.1.all (livS lives) = true then goF emp p.1.toNat p.2.1 M false else (M, false)
end Go.Proofs.Ytgfchgnebpogjaa
