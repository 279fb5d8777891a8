/- A class of worlds for regions that draw their order: all that keep what lies below a block; callees may make memory of their own. -/
import Derived.Deep.Quiet
import Derived.BigQuiet
import Derived.Below
namespace Go.Proofs.Ytgfchgnebpogjaa
open Go Go.RowKit
set_option linter.unusedVariables false

/-- A world that keeps, of w, what lies below block B. -/
structure WB (B : Nat) (w : World) where
  val : World
  bel : Below B w val

instance (B : Nat) (w : World) : Nonempty (WB B w) := ⟨⟨w, Below.refl _ _⟩⟩

theorem wp_region_cls {P : Program} {B : Nat} {w0 w : World} {id : Nat} {Q : Exit → Act → World → Prop} {a : Act} {l : List Oper} (hm : P.follows .mixedOrders = true) (hB : Region.lexB .any l.toArray = true) (hw : Below B w0 w)
    (h : wpQuiet P l.toArray (fun w' => ∃ X : WB B w0, w' = X.val) (fun a' => ∀ X : WB B w0, Q .normal a' X.val) l a) : (Code.region id l.toArray true).wp P Q a w :=
  wp_region_quiet (C := fun w' => ∃ X : WB B w0, w' = X.val) hm hB ⟨⟨{ w with drawn := w.drawn + 1 }, hw.trans ⟨rfl, rfl, rfl, Nat.le_refl _, fun _ _ => rfl⟩⟩, rfl⟩ (by
    have e : (fun a' => ∀ w', (∃ X : WB B w0, w' = X.val) → Q .normal a' w') = (fun a' => ∀ X : WB B w0, Q .normal a' X.val) := by
      funext a'
      apply propext
      exact ⟨fun h X => h _ ⟨X, rfl⟩, fun h w' ⟨X, e⟩ => e ▸ h X⟩
    simpa [e] using h)

/-- A callee's contract met in every world of the class. -/
theorem WB.call {P : Program} {B : Nat} {w0 : World} {f : FuncId} {args : Array Value} {v : Value} (X : WB B w0) (hB : B ≤ w0.heap.size) (h : Calls P f args X.val fun e w' => e = .returned v ∧ Below X.val.heap.size X.val w') :
    Calls P f args X.val fun e w'' => e = .returned v ∧ ∃ Y : WB B w0, w'' = Y.val :=
  h.mono fun e w'' ⟨he, hb⟩ => ⟨he, ⟨w'', X.bel.trans (hb.mono (Nat.le_trans hB X.bel.size))⟩, rfl⟩
theorem WB.call0 {P : Program} {B : Nat} {w0 : World} {f : FuncId} {args : Array Value} {v : Value} (X : WB B w0) (h : Calls P f args X.val fun e w' => e = .returned v ∧ X.val = w') :
    Calls P f args X.val fun e w'' => e = .returned v ∧ ∃ Y : WB B w0, w'' = Y.val :=
  h.mono fun e w'' ⟨he, hb⟩ => ⟨he, X, hb.symm⟩
end Go.Proofs.Ytgfchgnebpogjaa
