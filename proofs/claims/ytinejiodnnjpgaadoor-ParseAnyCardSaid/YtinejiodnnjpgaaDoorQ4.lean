/- A class of worlds for regions that draw their order: all that keep what lies below a block; callees may make memory of their own. · The parser's machine: set. -/
import Derived.Deep.Quiet
import Derived.BigQuiet
import Derived.Below
import Derived.Test.YtinejiodnnjpgaaDoorQ3
import Derived.Test.YtinejiodnnjpgaaDoorQ2
namespace Go.Proofs.YtinejiodnnjpgaaDoor
open Go Go.RowKit
set_option linter.unusedVariables false

/-- A world that keeps, of w, what lies below block B. -/
structure WB (B : Nat) (w : World) where
  val : World
  bel : Below B w val

instance (B : Nat) (w : World) : Nonempty (WB B w) := ⟨⟨w, Below.refl _ _⟩⟩

theorem wp_region_cls {P : Program} {B : Nat} {w0 w : World} {id : Nat} {Q : Exit → Act → World → Prop} {a : Act} {l : List Oper} (hm : P.follows .mixedOrders = true) (hB : Region.lexB .any l.toArray = true) (hw : Below B w0 w)
    (h : wpQuiet P l.toArray (fun w' => ∃ X : WB B w0, w' = X.val) (fun a' => ∀ X : WB B w0, Q .normal a' X.val) l a) : (Code.region id l.toArray true).wp P Q a w :=
  wp_region_quiet (C := fun w' => ∃ X : WB B w0, w' = X.val) hm hB ⟨⟨{ w with drawn := w.drawn + 1 }, hw.trans ⟨rfl, rfl, rfl, Nat.le_refl _, fun _ _ => rfl⟩⟩, rfl⟩ (by
    have e : (fun a' => ∀ w', (∃ X : WB B w0, w' = X.val) → Q .normal a' w') = (fun a' => ∀ X : WB B w0, Q .normal a' X.val) := by
      funext a'
      apply propext
      exact ⟨fun h X => h _ ⟨X, rfl⟩, fun h w' ⟨X, e⟩ => e ▸ h X⟩
    simpa [e] using h)

/-- A callee's contract met in every world of the class. -/
theorem WB.call {P : Program} {B : Nat} {w0 : World} {f : FuncId} {args : Array Value} {v : Value} (X : WB B w0) (hB : B ≤ w0.heap.size) (h : Calls P f args X.val fun e w' => e = .returned v ∧ Below X.val.heap.size X.val w') :
    Calls P f args X.val fun e w'' => e = .returned v ∧ ∃ Y : WB B w0, w'' = Y.val :=
  h.mono fun e w'' ⟨he, hb⟩ => ⟨he, ⟨w'', X.bel.trans (hb.mono (Nat.le_trans hB X.bel.size))⟩, rfl⟩
theorem WB.call0 {P : Program} {B : Nat} {w0 : World} {f : FuncId} {args : Array Value} {v : Value} (X : WB B w0) (h : Calls P f args X.val fun e w' => e = .returned v ∧ X.val = w') :
    Calls P f args X.val fun e w'' => e = .returned v ∧ ∃ Y : WB B w0, w'' = Y.val :=
  h.mono fun e w'' ⟨he, hb⟩ => ⟨he, X, hb.symm⟩

/-- All blocks that were there are as they were, but those of S. -/
structure Kp (S : Nat → Prop) (w w' : World) : Prop where
  os : w'.os = w.os
  tape : w'.tape = w.tape
  output : w'.output = w.output
  size : w.heap.size ≤ w'.heap.size
  block : ∀ k, k < w.heap.size → ¬ S k → w'.heap[k]? = w.heap[k]?
section
variable {S S' : Nat → Prop} {a w w' : World}
theorem Kp.refl (S : Nat → Prop) (w : World) : Kp S w w := ⟨rfl, rfl, rfl, Nat.le_refl _, fun _ _ _ => rfl⟩
theorem Kp.trans (h : Kp S a w) (k : Kp S w w') : Kp S a w' :=
  ⟨k.os.trans h.os, k.tape.trans h.tape, k.output.trans h.output, Nat.le_trans h.size k.size, fun i hi hs => (k.block i (Nat.lt_of_lt_of_le hi h.size) hs).trans (h.block i hi hs)⟩
theorem Kp.mono (h : Kp S w w') (hs : ∀ k, k < w.heap.size → S k → S' k) : Kp S' w w' := ⟨h.os, h.tape, h.output, h.size, fun k hk hn => h.block k hk (fun e => hn (hs k hk e))⟩
theorem Kp.draws (h : Kp S a w) (n : Nat) : Kp S a (w.drewN n) := h.trans ⟨rfl, rfl, rfl, Nat.le_refl _, fun _ _ _ => rfl⟩
theorem Kp.draw (h : Kp S a w) : Kp S a w.drew := h.trans ⟨rfl, rfl, rfl, Nat.le_refl _, fun _ _ _ => rfl⟩
theorem Kp.alloc (h : Kp S a w) (o : Obj) : Kp S a (w.alloc o) :=
  have b : Below w.heap.size w (w.alloc o) := (Below.refl _ _).alloc (Nat.le_refl _) _
  h.trans ⟨b.os, b.tape, b.output, b.size, fun k hk _ => b.block k hk⟩
theorem Kp.set_ (h : Kp S a w) {p : Addr} (hp : a.heap.size ≤ p.block ∨ S p.block) (u : Value) : Kp S a (w.setCell p u) :=
  ⟨h.os, h.tape, h.output, by rw [show (w.setCell p u).heap.size = w.heap.size by simp [World.setCell]]; exact h.size, fun k hk hs => by
    rw [Below.heap_setCell w p u k (fun e => by subst e; rcases hp with hp | hp; exact absurd hk (by omega); exact hs hp)]
    exact h.block k hk hs⟩
theorem Kp.grown (h : Kp S a w) {row : Option Nat} (hg : w.grownBy w' row) (hr : ∀ k, row = some k → a.heap.size ≤ k ∨ S k) : Kp S a w' :=
  ⟨hg.os.trans h.os, hg.tape.trans h.tape, hg.output.trans h.output, Nat.le_trans h.size hg.size, fun k hk hs =>
    (hg.block k (Nat.lt_of_lt_of_le hk h.size) (fun e => by rcases hr k e.symm with q | q; exact absurd hk (by omega); exact hs q)).trans (h.block k hk hs)⟩
theorem Kp.of (h : Below w.heap.size w w') : Kp S w w' := ⟨h.os, h.tape, h.output, h.size, fun k hk _ => h.block k hk⟩
theorem Kp.bel (h : Kp S w w') {B : Nat} (hB : B ≤ w.heap.size) (hs : ∀ k, k < B → ¬ S k) : Below B w w' := ⟨h.os, h.tape, h.output, h.size, fun k hk => h.block k (Nat.lt_of_lt_of_le hk hB) (hs k hk)⟩
theorem Kp.cell (h : Kp S w w') {p : Addr} (hp : p.block < w.heap.size) (hs : ¬ S p.block) : w'.cell? p = w.cell? p := World.cell?_of_block (w := w) (h.block p.block hp hs)
end
end Go.Proofs.YtinejiodnnjpgaaDoor
namespace Go.Proofs.YtinejiodnnjpgaaDoor
open Go.RowKit BigFrame
set_option linter.unusedVariables false
set_option linter.unusedSimpArgs false
set_option maxRecDepth 100000

/-- A method of the machine at m. -/
def mth (f m : Nat) : Value := .func (.func f) #[.pointer (some ⟨m, 0, none⟩)] #[]
def does (m : Nat) : List Value := [mth 54 m, mth 55 m, mth 56 m, mth 57 m]
theorem store_fn {P : Program} (W : World) (m j f : Nat) (old : Value) (hc : W.cell? ⟨m, j, none⟩ = some old) (hf : W.frozen? ⟨m, j, none⟩ = false) :
    (store ⟨m, j, none⟩ (.func (.func f) #[.pointer (some ⟨m, 0, none⟩)] #[])).run P W = .ok () (W.setCell ⟨m, j, none⟩ (.func (.func f) #[.pointer (some ⟨m, 0, none⟩)] #[])) := by
  rw [run_store P W _ _ _ (by rfl), hc]
  simp [hf]
set_option maxHeartbeats 4000000 in
theorem set_any (m : Nat) (w : World) (cs : List Value) (f0 f1 f2 f3 : Value) (hl : cs.length = 11) (hM : Blk w m 93 (cs ++ [f0, f1, f2, f3])) :
    Calls Tryd.prog 40 #[.pointer (some ⟨m, 0, none⟩)] w fun e w' => e = .returned (.tuple #[]) ∧ Blk w' m 93 (cs ++ does m) ∧ Kp (fun j => j = m) w w' := by
  have z0 := hM.cell (i := 11) (u := f0) (by simp [hl])
  have z1 := hM.cell (i := 12) (u := f1) (by simp [hl])
  have z2 := hM.cell (i := 13) (u := f2) (by simp [hl])
  have z3 := hM.cell (i := 14) (u := f3) (by simp [hl])
  have y0 := hM.frozen 11
  have y1 := hM.frozen 12
  have y2 := hM.frozen 13
  have y3 := hM.frozen 14
  have HM := Lib.hid hM
  have s0 := store_fn (P := Tryd.prog) w m 11 54 f0 z0 y0
  have b1 := hM.set_ 11 (mth 54 m)
  have b2 := b1.set_ 12 (mth 55 m)
  have b3 := b2.set_ 13 (mth 56 m)
  unfold mth at b1 b2 b3
  have s1 := store_fn (P := Tryd.prog) _ m 12 55 f1 (b1.cell (i := 12) (by simp [hl])) (b1.frozen 12)
  have s2 := store_fn (P := Tryd.prog) _ m 13 56 f2 (b2.cell (i := 13) (by simp [hl])) (b2.frozen 13)
  have s3 := store_fn (P := Tryd.prog) _ m 14 57 f3 (b3.cell (i := 14) (by simp [hl])) (b3.frozen 14)
  clear hM b1 b2 b3 z0 z1 z2 z3 y0 y1 y2 y3
  go_enter Tryd.func40, Tryd.ntmps40
  go_wp2_with fail
  go_end0
  refine ⟨rfl, ?_, ((((Kp.refl (fun j => j = m) w).set_ (p := ⟨m, 11, none⟩) (.inr rfl) _).set_ (p := ⟨m, 12, none⟩) (.inr rfl) _).set_ (p := ⟨m, 13, none⟩) (.inr rfl) _).set_ (p := ⟨m, 14, none⟩) (.inr rfl) _⟩
  have := (((HM.out.set_ 11 (mth 54 m)).set_ 12 (mth 55 m)).set_ 13 (mth 56 m)).set_ 14 (mth 57 m)
  have e : (((((cs ++ [f0, f1, f2, f3]).set 11 (mth 54 m)).set 12 (mth 55 m)).set 13 (mth 56 m)).set 14 (mth 57 m)) = cs ++ does m := by
    rw [List.set_append, if_neg (by omega), List.set_append, if_neg (by omega), List.set_append, if_neg (by omega), List.set_append, if_neg (by omega), hl]
    rfl
  rw [e] at this
  exact this
end Go.Proofs.YtinejiodnnjpgaaDoor
