/- slices.Grow of nil, slices.Concat of ranges; points.Join. · The program's sets: Has. -/
import Derived.Test.YthikgdogfkjioaaGreatDoorQ30
import Derived.Deep.Cut
import Derived.Lib.AppendZeros
namespace Go.Proofs.YthikgdogfkjioaaGreatDoor
open Go.RowKit BigFrame
set_option linter.unusedVariables false
set_option linter.unusedSimpArgs false
set_option maxRecDepth 100000

/-- The first k lists, one behind the other. -/
def catL (L : Nat → List Rg) : Nat → List Rg
  | 0 => []
  | k + 1 => catL L k ++ L k
def lenL (L : Nat → List Rg) : Nat → Nat
  | 0 => 0
  | k + 1 => lenL L k + (L k).length
theorem catL_len (L : Nat → List Rg) : ∀ k, (catL L k).length = lenL L k
  | 0 => rfl
  | k + 1 => by rw [catL, List.length_append, catL_len L k, lenL]
theorem lenL_le (L : Nat → List Rg) {m : Nat} : ∀ {k : Nat}, k ≤ m → lenL L k ≤ lenL L m := fun {k} h => by
  induction m with
  | zero => obtain rfl : k = 0 := by omega
            exact Nat.le_refl _
  | succ m ih =>
    by_cases e : k = m + 1
    · rw [e]; exact Nat.le_refl _
    · have := ih (by omega); rw [lenL]; omega

theorem inR_append {l m : List Rg} {p : Int} : inR (l ++ m) p = (inR l p || inR m p) := by
  unfold inR
  rw [memR_append]
  cases isPt p <;> simp
end Go.Proofs.YthikgdogfkjioaaGreatDoor
namespace Go.Proofs.YthikgdogfkjioaaGreatDoor
open Go.RowKit BigFrame
set_option linter.unusedVariables false
set_option linter.unusedSimpArgs false
set_option maxRecDepth 100000

end Go.Proofs.YthikgdogfkjioaaGreatDoor
