/- Memory: an alphabet under way: pieces and their classes, two rows grown side by side. · The alphabet's pieces are the classes' ranges, one class behind the other; in order they cover all points. Memory of the alphabet under way. · Keys that are numbers. -/
import Derived.Test.YtkcpfpofimkkiaaGreatDoorQ17
import Derived.Test.YtkcpfpofimkkiaaGreatDoorQ12
import Derived.Test.YtkcpfpofimkkiaaGreatDoorQ11
import Derived.Test.YtkcpfpofimkkiaaGreatDoorQ13
import Derived.Maps.RangeWalk
import Derived.Maps.OwnOps
import Derived.Maps.OwnSet
namespace Go.Proofs.YtkcpfpofimkkiaaGreatDoor
open Go.RowKit BigFrame
set_option linter.unusedVariables false
set_option linter.unusedSimpArgs false
set_option maxRecDepth 100000

structure Ta (w W : World) (gd base : Nat) (vx0 vy0 cv vx vy : Value) (X : List Rg) (Y : List Int) : Prop where
  b : Below base w W
  kd : Blk W gd 39 [vx0, vy0, cv]
  x : OwG W base vx X
  y : W.ownsRow base 3 1 vy Y.length (iv Y)
  lt : gd < base
  le : base ≤ w.heap.size
section
variable {w W W' : World} {gd base : Nat} {vx0 vy0 cv vx vy : Value} {X : List Rg} {Y : List Int}
theorem Ta.ext (h : Ta w W gd base vx0 vy0 cv vx vy X Y) (hb : Below W.heap.size W W') : Ta w W' gd base vx0 vy0 cv vx vy X Y :=
  ⟨h.b.trans (hb.mono (Nat.le_trans h.le h.b.size)), h.kd.below' hb, own_ext h.x hb, own_ext h.y hb, h.lt, h.le⟩
theorem Ta.base_le (h : Ta w W gd base vx0 vy0 cv vx vy X Y) : base ≤ W.heap.size := Nat.le_trans h.le h.b.size
theorem Ta.appX (h : Ta w W gd base vx0 vy0 cv vx vy X Y) {vx' : Value} {r : Rg} (hg : W.grownBy W' vx.ownBlock) (hr : OwG W' base vx' (X ++ [r])) : Ta w W' gd base vx0 vy0 cv vx' vy (X ++ [r]) Y := by
  have hlo : ∀ q, vx.ownBlock = some q → base ≤ q := fun q e => (World.ownsRow.lt h.x q e).1
  have hlt := h.lt
  exact ⟨h.b.grown hg h.base_le (fun q e => hlo q e), h.kd.grown hg (fun e => by have := hlo gd e.symm; omega), hr, h.y.kept hg (own_ne h.y h.x (by decide)), h.lt, h.le⟩
theorem Ta.appY (h : Ta w W gd base vx0 vy0 cv vx vy X Y) {vy' : Value} {y : Int} (hg : W.grownBy W' vy.ownBlock) (hr : W'.ownsRow base 3 1 vy' (Y.length + 1) (iv Y ++ [.int .i64 y])) : Ta w W' gd base vx0 vy0 cv vx vy' X (Y ++ [y]) := by
  have hlo : ∀ q, vy.ownBlock = some q → base ≤ q := fun q e => (h.y.lt q e).1
  have hlt := h.lt
  refine ⟨h.b.grown hg h.base_le (fun q e => hlo q e), h.kd.grown hg (fun e => by have := hlo gd e.symm; omega), World.ownsRow.kept h.x hg (own_ne h.x h.y (by decide)), ?_, h.lt, h.le⟩
  rw [List.length_append, show iv (Y ++ [y]) = iv Y ++ [.int .i64 y] by unfold iv; rw [List.map_append]; rfl]
  exact hr
/-- The alphabet's own cells are set. -/
theorem Ta.cells (h : Ta w W gd base vx0 vy0 cv vx vy X Y) (hw : w.heap.size ≤ W.heap.size) {lo : Nat} (hlo : lo ≤ gd) (u v : Value) :
    Blk ((W.setCell ⟨gd, 0, none⟩ u).setCell ⟨gd, 1, none⟩ v) gd 39 [u, v, cv] ∧ OwG ((W.setCell ⟨gd, 0, none⟩ u).setCell ⟨gd, 1, none⟩ v) base vx X ∧
      ((W.setCell ⟨gd, 0, none⟩ u).setCell ⟨gd, 1, none⟩ v).ownsRow base 3 1 vy Y.length (iv Y) ∧ Below lo w ((W.setCell ⟨gd, 0, none⟩ u).setCell ⟨gd, 1, none⟩ v) :=
  ⟨(h.kd.set_ 0 u).set_ 1 v, own_set (p := ⟨gd, 1, none⟩) (own_set (p := ⟨gd, 0, none⟩) h.x h.lt) h.lt, own_set (p := ⟨gd, 1, none⟩) (own_set (p := ⟨gd, 0, none⟩) h.y h.lt) h.lt,
    ((h.b.mono (by have := h.lt; omega)).setCell (p := ⟨gd, 0, none⟩) hlo u).setCell (p := ⟨gd, 1, none⟩) hlo v⟩
end
end Go.Proofs.YtkcpfpofimkkiaaGreatDoor
namespace Go.Proofs.YtkcpfpofimkkiaaGreatDoor
open Go.RowKit BigFrame
set_option linter.unusedVariables false
set_option linter.unusedSimpArgs false
set_option maxRecDepth 100000

/-- The ranges of the first c classes, and the first j of the next. -/
def gath (C : List (List Rg)) (c j : Nat) : List Rg := (C.take c).flatten ++ (nthS C c).take j
section
variable {C S : List (List Rg)} {c j : Nat} {o : List Nat}
theorem gath_push (hj : j < (nthS C c).length) : gath C c (j + 1) = gath C c j ++ [nthR (nthS C c) j] := by
  unfold gath
  rw [List.take_succ_eq_append_getElem hj, ← List.append_assoc, ← nthR_get hj]
theorem gath_next (hc : c < C.length) : gath C c (nthS C c).length = gath C (c + 1) 0 := by
  unfold gath
  rw [List.take_of_length_le (Nat.le_refl _), List.take_zero, List.append_nil, List.take_succ_eq_append_getElem hc, List.flatten_append, nthS_get hc]
  simp
theorem gath_done : gath C C.length 0 = C.flatten := by
  unfold gath
  rw [List.take_zero, List.append_nil, List.take_of_length_le (Nat.le_refl _)]
theorem can_apart : ∀ {l : List Rg} {f : Int}, CanF f l → l.Pairwise fun r s => ∀ p, ¬ ((r.1 ≤ p ∧ p ≤ r.2) ∧ (s.1 ≤ p ∧ p ≤ s.2))
  | [], _, _ => List.Pairwise.nil
  | (a, b) :: t, f, h => by
    obtain ⟨h1, h2, h3, h4⟩ := h
    refine List.pairwise_cons.2 ⟨fun s hs p q => ?_, can_apart h4⟩
    have := can_piece h4 hs
    obtain ⟨⟨q1, q2⟩, q3, q4⟩ := q
    simp only at q1 q2
    omega
theorem piece_mem {r : Rg} {l : List Rg} (hr : r ∈ l) {p : Int} (h1 : r.1 ≤ p) (h2 : p ≤ r.2) : memR l p = true := by
  unfold memR
  rw [List.any_eq_true]
  exact ⟨r, hr, by simp; exact ⟨h1, h2⟩⟩
theorem Parted.apart (h : Parted S C) : C.flatten.Pairwise fun r s => ∀ p, ¬ ((r.1 ≤ p ∧ p ≤ r.2) ∧ (s.1 ≤ p ∧ p ≤ s.2)) := by
  rw [List.pairwise_flatten]
  refine ⟨fun l hl => ?_, ?_⟩
  · obtain ⟨x, hx, q⟩ := h.each l hl
    exact can_apart q.can
  · rw [List.pairwise_iff_getElem]
    intro i k hi hk hik x hx y hy p q
    have e1 := h.cls hi (piece_mem hx q.1.1 q.1.2)
    have e2 := h.cls hk (piece_mem hy q.2.1 q.2.2)
    omega
theorem Parted.one (h : Parted S C) {r : Rg} (hr : r ∈ C.flatten) {p : Int} (h1 : r.1 ≤ p) (h2 : p ≤ r.2) : clsOf C p = clsOf C r.1 := by
  obtain ⟨l, hl, hrl⟩ := List.mem_flatten.1 hr
  obtain ⟨i, hi, rfl⟩ := List.getElem_of_mem hl
  rw [h.cls hi (piece_mem hrl h1 h2), h.cls hi (piece_mem hrl (Int.le_refl _) (by omega))]
theorem Parted.pos (h : Parted S C) : 0 < C.flatten.length := by
  obtain ⟨l, hl, hm⟩ := h.all 0 (by decide)
  unfold memR at hm
  rw [List.any_eq_true] at hm
  obtain ⟨r, hr, _⟩ := hm
  exact List.length_pos_of_mem (List.mem_flatten.2 ⟨l, hl, hr⟩)
theorem map_nthR_range (X : List Rg) : (List.range X.length).map (nthR X) = X := by
  apply List.ext_getElem
  · simp
  · intro i h1 h2
    rw [List.getElem_map, List.getElem_range, nthR_get h2]
/-- The pieces in order cover all points. -/
theorem Parted.cover (h : Parted S C) (ho : o.Perm (List.range C.flatten.length)) (hs : o.Pairwise fun a b => (nthR C.flatten a).1 ≤ (nthR C.flatten b).1) : Cover 0 1114111 (o.map (nthR C.flatten)) ∧ ∀ r ∈ o.map (nthR C.flatten), ∀ p, r.1 ≤ p → p ≤ r.2 → clsOf C p = clsOf C r.1 := by
  have hp : (o.map (nthR C.flatten)).Perm C.flatten := by
    have := ho.map (nthR C.flatten)
    rwa [map_nthR_range] at this
  refine ⟨⟨fun r hr => ?_, ?_, ?_, fun p h1 h2 => ?_⟩, fun r hr p h1 h2 => h.one (hp.mem_iff.1 hr) h1 h2⟩
  · obtain ⟨l, hl, hrl⟩ := List.mem_flatten.1 (hp.mem_iff.1 hr)
    obtain ⟨x, hx, q⟩ := h.each l hl
    have := can_piece q.can hrl
    unfold MP at this
    omega
  · rw [List.pairwise_map]; exact hs
  · exact (hp.pairwise_iff (fun {x y} q p z => q p ⟨z.2, z.1⟩)).2 h.apart
  · obtain ⟨l, hl, hm⟩ := h.all p (by unfold isPt MP; simp; omega)
    unfold memR at hm
    rw [List.any_eq_true] at hm
    obtain ⟨r, hr, q⟩ := hm
    simp only [Bool.and_eq_true, decide_eq_true_eq] at q
    exact ⟨r, hp.mem_iff.2 (List.mem_flatten.2 ⟨l, hl, hr⟩), q.1, q.2⟩
theorem Parted.ne (h : Parted S C) (hc : c < C.length) : 0 < (nthS C c).length := by
  obtain ⟨p, hp, hm⟩ := (h.each _ (List.getElem_mem hc)).self
  rw [nthS_get hc]
  cases e : C[c] with
  | nil => rw [e] at hm; cases hm
  | cons a l => simp
end
/-- An alphabet under way: its cells, and two rows that are grown, laid behind the world w1. -/
structure Al (w1 W : World) (gx : Nat) (vx vy : Value) (n : Int) (X : List Rg) (Y : List Int) : Prop where
  kp : Kp (fun q => q = gx) w1 W
  kd : Blk W gx 39 [vx, vy, .int .i64 n]
  x : OwG W w1.heap.size vx X
  y : W.ownsRow w1.heap.size 3 1 vy Y.length (iv Y)
  lt : gx < w1.heap.size
section
variable {w1 W W' : World} {gx : Nat} {vx vy : Value} {n : Int} {X : List Rg} {Y : List Int}
theorem Al.ext (h : Al w1 W gx vx vy n X Y) (hb : Below W.heap.size W W') : Al w1 W' gx vx vy n X Y :=
  ⟨h.kp.trans (Kp.of hb), h.kd.below' hb, own_ext h.x hb, own_ext h.y hb, h.lt⟩
theorem Al.le (h : Al w1 W gx vx vy n X Y) : w1.heap.size ≤ W.heap.size := h.kp.size
theorem Al.keptX (h : Al w1 W gx vx vy n X Y) (hg : W.grownBy W' vx.ownBlock) : Blk W' gx 39 [vx, vy, .int .i64 n] :=
  h.kd.grown hg (fun e => by have := (World.ownsRow.lt h.x gx e.symm).1; have := h.lt; omega)
theorem Al.keptY (h : Al w1 W gx vx vy n X Y) (hg : W.grownBy W' vy.ownBlock) : Blk W' gx 39 [vx, vy, .int .i64 n] :=
  h.kd.grown hg (fun e => by have := (h.y.lt gx e.symm).1; have := h.lt; omega)
theorem Al.pushX (h : Al w1 W gx vx vy n X Y) {vx' : Value} {r : Rg} (hg : W.grownBy W' vx.ownBlock) (hr : OwG W' w1.heap.size vx' (X ++ [r])) : Al w1 (W'.setCell ⟨gx, 0, none⟩ vx') gx vx' vy n (X ++ [r]) Y :=
  ⟨(h.kp.grown hg (fun q e => .inl (World.ownsRow.lt h.x q e).1)).set_ (p := ⟨gx, 0, none⟩) (.inr rfl) _, (h.keptX hg).set_ 0 vx', own_set (p := ⟨gx, 0, none⟩) hr h.lt, own_set (p := ⟨gx, 0, none⟩) (h.y.kept hg (own_ne h.y h.x (by decide))) h.lt, h.lt⟩
theorem Al.pushY (h : Al w1 W gx vx vy n X Y) {vy' : Value} {y : Int} (hg : W.grownBy W' vy.ownBlock) (hr : W'.ownsRow w1.heap.size 3 1 vy' (Y.length + 1) (iv Y ++ [.int .i64 y])) : Al w1 (W'.setCell ⟨gx, 1, none⟩ vy') gx vx vy' n X (Y ++ [y]) := by
  refine ⟨(h.kp.grown hg (fun q e => .inl (h.y.lt q e).1)).set_ (p := ⟨gx, 1, none⟩) (.inr rfl) _, (h.keptY hg).set_ 1 vy', own_set (p := ⟨gx, 1, none⟩) (World.ownsRow.kept h.x hg (own_ne h.x h.y (by decide))) h.lt, own_set (p := ⟨gx, 1, none⟩) ?_ h.lt, h.lt⟩
  rw [List.length_append, show iv (Y ++ [y]) = iv Y ++ [.int .i64 y] by unfold iv; rw [List.map_append]; rfl]
  exact hr
/-- Behind a region that appended to both rows: the cells are set. -/
theorem Al.of_ta {wr wd : World} {u0 u1 vx0 vy0 : Value} {X0 : List Rg} {Y0 : List Int} (h : Al w1 wr gx vx0 vy0 n X0 Y0) (ht : Ta wd W gx w1.heap.size u0 u1 (.int .i64 n) vx vy X Y) (hd : Below wr.heap.size wr wd) :
    Al w1 ((W.setCell ⟨gx, 0, none⟩ vx).setCell ⟨gx, 1, none⟩ vy) gx vx vy n X Y := by
  have hk := h.kp.trans (Kp.of hd)
  have hb := ht.b
  have hle := hk.size
  refine ⟨Kp.set_ (p := ⟨gx, 1, none⟩) (Kp.set_ (p := ⟨gx, 0, none⟩) (⟨hb.os.trans hk.os, hb.tape.trans hk.tape, hb.output.trans hk.output, Nat.le_trans hle hb.size, fun q h1 h2 => (hb.block q h1).trans (hk.block q h1 h2)⟩) (.inr rfl) _) (.inr rfl) _, (ht.kd.set_ 0 vx).set_ 1 vy, own_set (p := ⟨gx, 1, none⟩) (own_set (p := ⟨gx, 0, none⟩) ht.x h.lt) h.lt, own_set (p := ⟨gx, 1, none⟩) (own_set (p := ⟨gx, 0, none⟩) ht.y h.lt) h.lt, h.lt⟩
theorem Al.ta {wr wd : World} (h : Al w1 wr gx vx vy n X Y) (hd : Below wr.heap.size wr wd) : Ta wd wd gx w1.heap.size vx vy (.int .i64 n) vx vy X Y := by
  have h2 := h.ext hd
  exact ⟨Below.refl _ _, h2.kd, h2.x, h2.y, h2.lt, h2.le⟩
theorem Al.num (h : Al w1 W gx vx vy n X Y) (m : Int) : Al w1 (W.setCell ⟨gx, 2, none⟩ (.int .i64 m)) gx vx vy m X Y :=
  ⟨h.kp.set_ (p := ⟨gx, 2, none⟩) (.inr rfl) _, h.kd.set_ 2 _, own_set (p := ⟨gx, 2, none⟩) h.x h.lt, own_set (p := ⟨gx, 2, none⟩) h.y h.lt, h.lt⟩
end
end Go.Proofs.YtkcpfpofimkkiaaGreatDoor
namespace Go.Proofs.YtkcpfpofimkkiaaGreatDoor
open Go.RowKit BigFrame Go.Maps
set_option linter.unusedVariables false
set_option linter.unusedSimpArgs false
set_option maxRecDepth 100000

theorem lawI : Keyed Tryz.prog 3 := int_keyed Tryz.underlying3
def wfI (x : Int) : Prop := (Lit.int .i64 x).wf = true
theorem wfI_nat {a : Nat} (h : a ≤ 1000000) : wfI (a : Int) := WalkArith.wf_i64 (by omega)
theorem keyI {x : Int} (h : wfI x) : keyOf Tryz.prog 3 (.int .i64 x) = some (.int .i64 x) := keyOf_int_mk Tryz.underlying3 h
end Go.Proofs.YtkcpfpofimkkiaaGreatDoor
