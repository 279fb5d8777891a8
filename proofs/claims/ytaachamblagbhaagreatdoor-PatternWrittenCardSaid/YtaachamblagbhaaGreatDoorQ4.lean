/- A class of worlds for regions that draw their order: all that keep what lies below a block; callees may make memory of their own. · A region that draws its order: quiet operations (calls too) ahead of one store: the cheap steps. · Ranges in memory. -/
import Derived.Deep.Quiet
import Derived.BigQuiet
import Derived.Below
import Derived.StillTailTactics
import Derived.Test.YtaachamblagbhaaGreatDoorQ3
import Derived.Test.YtaachamblagbhaaGreatDoorProg
import Derived.WalkSpells
import Derived.WalkLawsBesides
import Derived.Handy
import Derived.BigRegion
import Derived.Deep.QuietTactic
namespace Go.Proofs.YtaachamblagbhaaGreatDoor
open Go Go.RowKit
set_option linter.unusedVariables false

/-- A world that keeps, of w, what lies below block B. -/
structure WB (B : Nat) (w : World) where
  val : World
  bel : Below B w val

instance (B : Nat) (w : World) : Nonempty (WB B w) := ⟨⟨w, Below.refl _ _⟩⟩

theorem wp_region_cls {P : Program} {B : Nat} {w0 w : World} {id : Nat} {Q : Exit → Act → World → Prop} {a : Act} {l : List Oper} (hm : P.follows .mixedOrders = true) (hB : Region.lexB .any l.toArray = true) (hw : Below B w0 w)
    (h : wpQuiet P l.toArray (fun w' => ∃ X : WB B w0, w' = X.val) (fun a' => ∀ X : WB B w0, Q .normal a' X.val) l a) : (Code.region id l.toArray true).wp P Q a w :=
  wp_region_quiet (C := fun w' => ∃ X : WB B w0, w' = X.val) hm hB ⟨⟨{ w with drawn := w.drawn + 1 }, hw.trans ⟨rfl, rfl, rfl, Nat.le_refl _, fun _ _ => rfl⟩⟩, rfl⟩ (by
    have e : (fun a' => ∀ w', (∃ X : WB B w0, w' = X.val) → Q .normal a' w') = (fun a' => ∀ X : WB B w0, Q .normal a' X.val) := by
      funext a'
      apply propext
      exact ⟨fun h X => h _ ⟨X, rfl⟩, fun h w' ⟨X, e⟩ => e ▸ h X⟩
    simpa [e] using h)

/-- A callee's contract met in every world of the class. -/
theorem WB.call {P : Program} {B : Nat} {w0 : World} {f : FuncId} {args : Array Value} {v : Value} (X : WB B w0) (hB : B ≤ w0.heap.size) (h : Calls P f args X.val fun e w' => e = .returned v ∧ Below X.val.heap.size X.val w') :
    Calls P f args X.val fun e w'' => e = .returned v ∧ ∃ Y : WB B w0, w'' = Y.val :=
  h.mono fun e w'' ⟨he, hb⟩ => ⟨he, ⟨w'', X.bel.trans (hb.mono (Nat.le_trans hB X.bel.size))⟩, rfl⟩
theorem WB.call0 {P : Program} {B : Nat} {w0 : World} {f : FuncId} {args : Array Value} {v : Value} (X : WB B w0) (h : Calls P f args X.val fun e w' => e = .returned v ∧ X.val = w') :
    Calls P f args X.val fun e w'' => e = .returned v ∧ ∃ Y : WB B w0, w'' = Y.val :=
  h.mono fun e w'' ⟨he, hb⟩ => ⟨he, X, hb.symm⟩

/-- All blocks that were there are as they were, but those of S. -/
structure Kp (S : Nat → Prop) (w w' : World) : Prop where
  os : w'.os = w.os
  tape : w'.tape = w.tape
  output : w'.output = w.output
  size : w.heap.size ≤ w'.heap.size
  block : ∀ k, k < w.heap.size → ¬ S k → w'.heap[k]? = w.heap[k]?
section
variable {S S' : Nat → Prop} {a w w' : World}
theorem Kp.refl (S : Nat → Prop) (w : World) : Kp S w w := ⟨rfl, rfl, rfl, Nat.le_refl _, fun _ _ _ => rfl⟩
theorem Kp.trans (h : Kp S a w) (k : Kp S w w') : Kp S a w' :=
  ⟨k.os.trans h.os, k.tape.trans h.tape, k.output.trans h.output, Nat.le_trans h.size k.size, fun i hi hs => (k.block i (Nat.lt_of_lt_of_le hi h.size) hs).trans (h.block i hi hs)⟩
theorem Kp.mono (h : Kp S w w') (hs : ∀ k, k < w.heap.size → S k → S' k) : Kp S' w w' := ⟨h.os, h.tape, h.output, h.size, fun k hk hn => h.block k hk (fun e => hn (hs k hk e))⟩
theorem Kp.draws (h : Kp S a w) (n : Nat) : Kp S a (w.drewN n) := h.trans ⟨rfl, rfl, rfl, Nat.le_refl _, fun _ _ _ => rfl⟩
theorem Kp.draw (h : Kp S a w) : Kp S a w.drew := h.trans ⟨rfl, rfl, rfl, Nat.le_refl _, fun _ _ _ => rfl⟩
theorem Kp.alloc (h : Kp S a w) (o : Obj) : Kp S a (w.alloc o) :=
  have b : Below w.heap.size w (w.alloc o) := (Below.refl _ _).alloc (Nat.le_refl _) _
  h.trans ⟨b.os, b.tape, b.output, b.size, fun k hk _ => b.block k hk⟩
theorem Kp.set_ (h : Kp S a w) {p : Addr} (hp : a.heap.size ≤ p.block ∨ S p.block) (u : Value) : Kp S a (w.setCell p u) :=
  ⟨h.os, h.tape, h.output, by rw [show (w.setCell p u).heap.size = w.heap.size by simp [World.setCell]]; exact h.size, fun k hk hs => by
    rw [Below.heap_setCell w p u k (fun e => by subst e; rcases hp with hp | hp; exact absurd hk (by omega); exact hs hp)]
    exact h.block k hk hs⟩
theorem Kp.grown (h : Kp S a w) {row : Option Nat} (hg : w.grownBy w' row) (hr : ∀ k, row = some k → a.heap.size ≤ k ∨ S k) : Kp S a w' :=
  ⟨hg.os.trans h.os, hg.tape.trans h.tape, hg.output.trans h.output, Nat.le_trans h.size hg.size, fun k hk hs =>
    (hg.block k (Nat.lt_of_lt_of_le hk h.size) (fun e => by rcases hr k e.symm with q | q; exact absurd hk (by omega); exact hs q)).trans (h.block k hk hs)⟩
theorem Kp.of (h : Below w.heap.size w w') : Kp S w w' := ⟨h.os, h.tape, h.output, h.size, fun k hk _ => h.block k hk⟩
theorem Kp.bel (h : Kp S w w') {B : Nat} (hB : B ≤ w.heap.size) (hs : ∀ k, k < B → ¬ S k) : Below B w w' := ⟨h.os, h.tape, h.output, h.size, fun k hk => h.block k (Nat.lt_of_lt_of_le hk hB) (hs k hk)⟩
theorem Kp.cell (h : Kp S w w') {p : Addr} (hp : p.block < w.heap.size) (hs : ¬ S p.block) : w'.cell? p = w.cell? p := World.cell?_of_block (w := w) (h.block p.block hp hs)
end
end Go.Proofs.YtaachamblagbhaaGreatDoor
namespace Go.Proofs.YtaachamblagbhaaGreatDoor
open Go
set_option linter.unusedVariables false

theorem wpStill_of_quiet {P : Program} {ops : Array Oper} {w : World} {Q : Act → Prop} : ∀ (l : List Oper) (a : Act), wpQuiet P ops (fun w' => w' = w) Q l a → wpStill P ops w Q l a
  | [], a, h => h
  | o :: rest, a, h => by
    unfold wpQuiet at h
    unfold wpStill
    split at h
    · rename_i hw
      rw [if_pos hw]
      obtain ⟨v, h1, h2⟩ := h
      have h3 := h1 w rfl
      unfold Oper.quietAt at h3
      unfold Oper.still
      generalize (execOp a.eval o).run P w = r at *
      cases r with
      | halt x w' => exact h3.elim
      | ok n w' =>
        cases n with
        | value u =>
          obtain ⟨rfl, rfl⟩ := h3
          exact ⟨rfl, wpStill_of_quiet rest _ h2⟩
        | skip =>
          obtain ⟨rfl, rfl⟩ := h3
          exact ⟨rfl, wpStill_of_quiet rest _ h2⟩
        | enter f args =>
          obtain ⟨rfl, hc⟩ := h3
          exact ⟨rfl, v, hc, wpStill_of_quiet rest _ h2⟩
        | _ => exact h3.elim
    · rename_i hw
      rw [if_neg hw]
      exact wpStill_of_quiet rest _ h

/-- N quiet operations, then the tail, in the world drawn once. -/
theorem wp_quiet_tail {P : Program} {ops : Array Oper} {w w2 : World} (hw : w2 = w.drew) {Q : Act → Prop} {l : List Oper} {a : Act} (h : wpQuiet P ops (fun w' => w' = w2) Q l a) : wpStill P ops w.drew Q l a := by
  subst hw
  exact wpStill_of_quiet l a h
end Go.Proofs.YtaachamblagbhaaGreatDoor
namespace Go.Proofs.YtaachamblagbhaaGreatDoor
open Go.RowKit BigFrame
set_option linter.unusedVariables false
set_option linter.unusedSimpArgs false
set_option maxRecDepth 100000

theorem elRg : ElTy Tryz.prog 23 57 2 16 (.agg #[.int .i64 0, .int .i64 0]) := ⟨Tryz.underlying23, by kernel_rfl, rfl, by decide⟩
theorem elIn : ElTy Tryz.prog 24 3 1 8 (.int .i64 0) := ⟨Tryz.underlying24, by kernel_rfl, rfl, by decide⟩
/-- Ranges as cells. -/
def rv (l : List Rg) : List Value := l.flatMap fun r => [.int .i64 r.1, .int .i64 r.2]
theorem rv_len (l : List Rg) : (rv l).length = l.length * 2 := by
  induction l with
  | nil => rfl
  | cons r l ih => unfold rv at *; rw [List.flatMap_cons, List.length_append, ih, List.length_cons]; simp; omega
theorem rv_append (l m : List Rg) : rv (l ++ m) = rv l ++ rv m := by unfold rv; rw [List.flatMap_append]
theorem rv_one (l : List Rg) : ∀ u ∈ rv l, u.oneCell' = true := by
  intro u hu
  unfold rv at hu
  rw [List.mem_flatMap] at hu
  obtain ⟨r, _, h⟩ := hu
  simp at h
  rcases h with rfl | rfl <;> rfl
def nthR (l : List Rg) (k : Nat) : Rg := l.getD k (0, 0)
theorem nthR_get {l : List Rg} {k : Nat} (h : k < l.length) : nthR l k = l[k] := by simp [nthR, h]
theorem rv_get : ∀ {l : List Rg} {k : Nat}, k < l.length → (rv l)[k * 2]? = some (.int .i64 (nthR l k).1) ∧ (rv l)[k * 2 + 1]? = some (.int .i64 (nthR l k).2)
  | [], k, h => by simp at h
  | r :: l, 0, _ => ⟨rfl, rfl⟩
  | r :: l, k + 1, h => by
    obtain ⟨a, b⟩ := rv_get (l := l) (k := k) (by simpa using h)
    have e : rv (r :: l) = .int .i64 r.1 :: .int .i64 r.2 :: rv l := rfl
    rw [e, show (k + 1) * 2 = k * 2 + 1 + 1 by omega, show k * 2 + 1 + 1 + 1 = (k * 2 + 1) + 1 + 1 from rfl]
    simp only [List.getElem?_cons_succ]
    exact ⟨by rw [a]; rfl, by rw [b]; rfl⟩
theorem rv_set_hi : ∀ {l : List Rg} {k : Nat} {x : Int}, k < l.length → (rv l).set (k * 2 + 1) (.int .i64 x) = rv (l.set k ((nthR l k).1, x))
  | [], k, x, h => by simp at h
  | r :: l, 0, x, _ => rfl
  | r :: l, k + 1, x, h => by
    have ih := rv_set_hi (l := l) (k := k) (x := x) (by simpa using h)
    have e : rv (r :: l) = .int .i64 r.1 :: .int .i64 r.2 :: rv l := rfl
    rw [e, show (k + 1) * 2 + 1 = k * 2 + 1 + 1 + 1 by omega]
    simp only [List.set_cons_succ]
    rw [ih]; rfl
/-- A slice of ranges. -/
def RdG (w : World) (B : Nat) (A : Option Addr) (l : List Rg) : Prop := Rd w B A (rv l)
theorem RdG.at_ {w : World} {B : Nat} {A : Option Addr} {l : List Rg} (h : RdG w B A l) (hn : 0 < l.length) :
    ∃ b off, A = some ⟨b, off, none⟩ ∧ b < B ∧ ∀ k, k < l.length → w.cell? ⟨b, off + k * 2, none⟩ = some (.int .i64 (nthR l k).1) ∧ w.cell? ⟨b, off + k * 2 + 1, none⟩ = some (.int .i64 (nthR l k).2) := by
  obtain ⟨b, off, e, hb, hc⟩ := h (by intro e; have := rv_len l; rw [e] at this; simp at this; omega)
  refine ⟨b, off, e, hb, fun k hk => ?_⟩
  obtain ⟨h1, h2⟩ := rv_get hk
  exact ⟨hc _ _ h1, by rw [Nat.add_assoc]; exact hc _ _ h2⟩
theorem RdG.below {w w' : World} {B : Nat} {A : Option Addr} {l : List Rg} (h : RdG w B A l) (hb : Below B w w') : RdG w' B A l := Rd.below h hb
theorem RdG.more {w : World} {B B' : Nat} {A : Option Addr} {l : List Rg} (h : RdG w B A l) (hB : B ≤ B') : RdG w B' A l := Rd.more h hB
/-- A row of the call's own: ranges. -/
def OwG (w : World) (base : Nat) (v : Value) (l : List Rg) : Prop := w.ownsRow base 57 2 v l.length (rv l)
theorem OwG.nil (w : World) (base : Nat) : OwG w base (.slice none 0 0) [] := World.ownsRow_nil _ _ _ _
theorem OwG.form {w : World} {base : Nat} {v : Value} {l : List Rg} (h : OwG w base v l) : ∃ A c, v = .slice A l.length c ∧ l.length ≤ c ∧ c ≤ maxLen ∧ RdG w w.heap.size A l := own_form h
theorem OwG.ext {w w' : World} {base : Nat} {v : Value} {l : List Rg} (h : OwG w base v l) (hb : Below w.heap.size w w') : OwG w' base v l := own_ext h hb
/-- Its block. -/
theorem OwG.blk {w : World} {base : Nat} {v : Value} {l : List Rg} (h : OwG w base v l) (hl : 0 < l.length) : ∃ g cap, v = .slice (some ⟨g, 0, none⟩) l.length cap ∧ v.ownBlock = some g ∧ base ≤ g ∧ g < w.heap.size ∧ (∀ i, w.frozen? ⟨g, i, none⟩ = false) ∧
    (∀ k, k < l.length → w.cell? ⟨g, k * 2, none⟩ = some (.int .i64 (nthR l k).1) ∧ w.cell? ⟨g, k * 2 + 1, none⟩ = some (.int .i64 (nthR l k).2)) ∧
    ∀ k x, k < l.length → OwG (w.setCell ⟨g, k * 2 + 1, none⟩ (.int .i64 x)) base v (l.set k ((nthR l k).1, x)) := by
  rcases h.2 with ⟨_, h0⟩ | ⟨g, cap, cur, rfl, hb, hg, hn, hc, hs, ht⟩
  · omega
  · have hlen := rv_len l
    refine ⟨g, cap, rfl, rfl, hb, (Array.getElem?_eq_some_iff.1 hg).1, fun i => by simp [World.frozen?, hg], fun k hk => ?_, fun k x hk => ⟨by rw [rv_len], .inr ⟨g, cap, cur.set! (k * 2 + 1) (.int .i64 x), by rw [List.length_set], hb, ?_, by rw [List.length_set]; exact hn, hc, by simp [hs], ?_⟩⟩⟩
    · obtain ⟨r1, r2⟩ := rv_get hk
      rw [← ht] at r1 r2
      rw [List.getElem?_take] at r1 r2
      have q1 : cur.toList[k * 2]? = some (.int .i64 (nthR l k).1) := by
        split at r1
        · exact r1
        · cases r1
      have q2 : cur.toList[k * 2 + 1]? = some (.int .i64 (nthR l k).2) := by
        split at r2
        · exact r2
        · cases r2
      rw [cell_of_row w g (k * 2) cur 57 (0, 0) hg, cell_of_row w g (k * 2 + 1) cur 57 (0, 0) hg]
      exact ⟨by simpa using q1, by simpa using q2⟩
    · simp [World.setCell, Array.getElem?_modify, hg]
    · rw [List.length_set, Array.set!, Array.toList_setIfInBounds, List.take_set, ht]
      exact rv_set_hi hk
end Go.Proofs.YtaachamblagbhaaGreatDoor
