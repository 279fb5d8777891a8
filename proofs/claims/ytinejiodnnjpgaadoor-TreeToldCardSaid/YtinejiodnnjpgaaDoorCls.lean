/- A class of worlds for regions that draw their order: all that keep what lies below a block; callees may make memory of their own. -/
import Derived.Deep.Quiet
import Derived.BigQuiet
import Derived.Below
namespace Go.Proofs.YtinejiodnnjpgaaDoor
open Go Go.RowKit
set_option linter.unusedVariables false

/-- A world that keeps, of w, what lies below block B. -/
structure WB (B : Nat) (w : World) where
  val : World
  bel : Below B w val

instance (B : Nat) (w : World) : Nonempty (WB B w) := ⟨⟨w, Below.refl _ _⟩⟩

theorem wp_region_cls {P : Program} {B : Nat} {w0 w : World} {id : Nat} {Q : Exit → Act → World → Prop} {a : Act} {l : List Oper} (hm : P.follows .mixedOrders = true) (hB : Region.lexB .any l.toArray = true) (hw : Below B w0 w)
    (h : wpQuiet P l.toArray (fun w' => ∃ X : WB B w0, w' = X.val) (fun a' => ∀ X : WB B w0, Q .normal a' X.val) l a) : (Code.region id l.toArray true).wp P Q a w :=
  wp_region_quiet (C := fun w' => ∃ X : WB B w0, w' = X.val) hm hB ⟨⟨{ w with drawn := w.drawn + 1 }, hw.trans ⟨rfl, rfl, rfl, Nat.le_refl _, fun _ _ => rfl⟩⟩, rfl⟩ (by
    have e : (fun a' => ∀ w', (∃ X : WB B w0, w' = X.val) → Q .normal a' w') = (fun a' => ∀ X : WB B w0, Q .normal a' X.val) := by
      funext a'
      apply propext
      exact ⟨fun h X => h _ ⟨X, rfl⟩, fun h w' ⟨X, e⟩ => e ▸ h X⟩
    simpa [e] using h)

/-- A callee's contract met in every world of the class. -/
theorem WB.call {P : Program} {B : Nat} {w0 : World} {f : FuncId} {args : Array Value} {v : Value} (X : WB B w0) (hB : B ≤ w0.heap.size) (h : Calls P f args X.val fun e w' => e = .returned v ∧ Below X.val.heap.size X.val w') :
    Calls P f args X.val fun e w'' => e = .returned v ∧ ∃ Y : WB B w0, w'' = Y.val :=
  h.mono fun e w'' ⟨he, hb⟩ => ⟨he, ⟨w'', X.bel.trans (hb.mono (Nat.le_trans hB X.bel.size))⟩, rfl⟩
theorem WB.call0 {P : Program} {B : Nat} {w0 : World} {f : FuncId} {args : Array Value} {v : Value} (X : WB B w0) (h : Calls P f args X.val fun e w' => e = .returned v ∧ X.val = w') :
    Calls P f args X.val fun e w'' => e = .returned v ∧ ∃ Y : WB B w0, w'' = Y.val :=
  h.mono fun e w'' ⟨he, hb⟩ => ⟨he, X, hb.symm⟩

/-- All blocks that were there are as they were, but those of S. -/
structure Kp (S : Nat → Prop) (w w' : World) : Prop where
  os : w'.os = w.os
  tape : w'.tape = w.tape
  output : w'.output = w.output
  size : w.heap.size ≤ w'.heap.size
  block : ∀ k, k < w.heap.size → ¬ S k → w'.heap[k]? = w.heap[k]?
section
variable {S S' : Nat → Prop} {a w w' : World}
theorem Kp.refl (S : Nat → Prop) (w : World) : Kp S w w := ⟨rfl, rfl, rfl, Nat.le_refl _, fun _ _ _ => rfl⟩
theorem Kp.trans (h : Kp S a w) (k : Kp S w w') : Kp S a w' :=
  ⟨k.os.trans h.os, k.tape.trans h.tape, k.output.trans h.output, Nat.le_trans h.size k.size, fun i hi hs => (k.block i (Nat.lt_of_lt_of_le hi h.size) hs).trans (h.block i hi hs)⟩
theorem Kp.mono (h : Kp S w w') (hs : ∀ k, k < w.heap.size → S k → S' k) : Kp S' w w' := ⟨h.os, h.tape, h.output, h.size, fun k hk hn => h.block k hk (fun e => hn (hs k hk e))⟩
theorem Kp.draws (h : Kp S a w) (n : Nat) : Kp S a (w.drewN n) := h.trans ⟨rfl, rfl, rfl, Nat.le_refl _, fun _ _ _ => rfl⟩
theorem Kp.draw (h : Kp S a w) : Kp S a w.drew := h.trans ⟨rfl, rfl, rfl, Nat.le_refl _, fun _ _ _ => rfl⟩
theorem Kp.alloc (h : Kp S a w) (o : Obj) : Kp S a (w.alloc o) :=
  have b : Below w.heap.size w (w.alloc o) := (Below.refl _ _).alloc (Nat.le_refl _) _
  h.trans ⟨b.os, b.tape, b.output, b.size, fun k hk _ => b.block k hk⟩
theorem Kp.set_ (h : Kp S a w) {p : Addr} (hp : a.heap.size ≤ p.block ∨ S p.block) (u : Value) : Kp S a (w.setCell p u) :=
  ⟨h.os, h.tape, h.output, by rw [show (w.setCell p u).heap.size = w.heap.size by simp [World.setCell]]; exact h.size, fun k hk hs => by
    rw [Below.heap_setCell w p u k (fun e => by subst e; rcases hp with hp | hp; exact absurd hk (by omega); exact hs hp)]
    exact h.block k hk hs⟩
theorem Kp.grown (h : Kp S a w) {row : Option Nat} (hg : w.grownBy w' row) (hr : ∀ k, row = some k → a.heap.size ≤ k ∨ S k) : Kp S a w' :=
  ⟨hg.os.trans h.os, hg.tape.trans h.tape, hg.output.trans h.output, Nat.le_trans h.size hg.size, fun k hk hs =>
    (hg.block k (Nat.lt_of_lt_of_le hk h.size) (fun e => by rcases hr k e.symm with q | q; exact absurd hk (by omega); exact hs q)).trans (h.block k hk hs)⟩
theorem Kp.of (h : Below w.heap.size w w') : Kp S w w' := ⟨h.os, h.tape, h.output, h.size, fun k hk _ => h.block k hk⟩
theorem Kp.bel (h : Kp S w w') {B : Nat} (hB : B ≤ w.heap.size) (hs : ∀ k, k < B → ¬ S k) : Below B w w' := ⟨h.os, h.tape, h.output, h.size, fun k hk => h.block k (Nat.lt_of_lt_of_le hk hB) (hs k hk)⟩
theorem Kp.cell (h : Kp S w w') {p : Addr} (hp : p.block < w.heap.size) (hs : ¬ S p.block) : w'.cell? p = w.cell? p := World.cell?_of_block (w := w) (h.block p.block hp hs)
end
end Go.Proofs.YtinejiodnnjpgaaDoor
