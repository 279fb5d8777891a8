/- A block known whole: made by make, read, written; and what stays. · append of whatever slice reads (nil too) to a row of the call's own. · A class of worlds for regions that draw their order: all that keep what lies below a block; callees may make memory of their own. -/
import Derived.Test.YtkcpfpofimkkiaaGreatDoorQ2
import Derived.Deep.OwnRows
import Derived.Lib.AppendZeros
import Derived.Deep.Quiet
import Derived.BigQuiet
import Derived.Below
namespace Go.Proofs.YtkcpfpofimkkiaaGreatDoor
open Go.RowKit
set_option linter.unusedVariables false
set_option linter.unusedSimpArgs false
set_option maxRecDepth 100000

def Blk (w : World) (g : Nat) (e : TypeId) (vs : List Value) : Prop := w.heap[g]? = some (.cells vs.toArray e (0, 0))

section
variable {w w' : World} {g : Nat} {e : TypeId} {vs : List Value}
theorem Blk.lt (h : Blk w g e vs) : g < w.heap.size := (Array.getElem?_eq_some_iff.1 h).1
theorem Blk.cell (h : Blk w g e vs) {i : Nat} {u : Value} (hu : vs[i]? = some u) : w.cell? ⟨g, i, none⟩ = some u := by
  rw [cell_of_row w g i _ e (0, 0) h]; simpa using hu
theorem Blk.frozen (h : Blk w g e vs) (i : Nat) : w.frozen? ⟨g, i, none⟩ = false := by
  unfold Blk at h
  simp [World.frozen?, h]
theorem Blk.new (w : World) (e : TypeId) (vs : List Value) : Blk (w.alloc (.cells vs.toArray e)) w.heap.size e vs := heap_alloc_new w _
theorem Blk.drew (h : Blk w g e vs) : Blk w.drew g e vs := h
theorem Blk.drewN (h : Blk w g e vs) (n : Nat) : Blk (w.drewN n) g e vs := h
theorem Blk.alloc (h : Blk w g e vs) (o : Obj) : Blk (w.alloc o) g e vs := (Below.heap_alloc w o g h.lt).trans h
theorem Blk.set_ (h : Blk w g e vs) (i : Nat) (u : Value) : Blk (w.setCell ⟨g, i, none⟩ u) g e (vs.set i u) := by
  unfold Blk at h ⊢
  simp [World.setCell, Array.getElem?_modify, h]
theorem Blk.far (h : Blk w g e vs) {p : Addr} (hp : g ≠ p.block) (u : Value) : Blk (w.setCell p u) g e vs := (Below.heap_setCell w p u g hp).trans h
theorem Blk.below {B : Nat} (h : Blk w g e vs) (hb : Below B w w') (hg : g < B) : Blk w' g e vs := (hb.block g hg).trans h
theorem Blk.below' (h : Blk w g e vs) (hb : Below w.heap.size w w') : Blk w' g e vs := h.below hb h.lt
theorem Blk.grown {row : Option Nat} (h : Blk w g e vs) (hb : w.grownBy w' row) (hg : some g ≠ row) : Blk w' g e vs := (hb.block g h.lt hg).trans h
end

theorem setCell_size (w : World) (p : Addr) (u : Value) : (w.setCell p u).heap.size = w.heap.size := by simp [World.setCell]

/-- n zeros. -/
def zs (z : Value) (n : Nat) : Array Value := (List.replicate n z).toArray

theorem madeCells_one (z : Value) (n : Nat) : madeCells #[z] n = zs z n := by
  apply Array.ext'
  simp [madeCells, zs]
  apply List.ext_getElem?
  intro i
  by_cases h : i < n
  · simp [h, Nat.mod_one]
  · simp [h]

theorem mk_row {P : Program} {t e : TypeId} {bytes : Nat} {z : Value} (E : ElTy P t e 1 bytes z) (hz1 : z.cells = #[z]) (kl kc : IntKind) (n : Nat) (k : Int) (hk : k = n) (hbytes : bytes * n ≤ 281474976710656) (h63 : n ≤ 9223372036854775807) (w : World) :
    (Instr.makeSlice t (.int kl k) (.int kc k)).run P w = .ok (.slice (some ⟨w.heap.size, 0, none⟩) n n) (w.alloc (.cells (zs z n) e)) := by
  subst hk
  rw [run_make_row' t e z bytes E.ht E.hi hz1 kl kc n hbytes h63 w, madeCells_one]

theorem Blk.made (w : World) (e : TypeId) (z : Value) (n : Nat) : Blk (w.alloc (.cells (zs z n) e)) w.heap.size e (List.replicate n z) := heap_alloc_new w _

/-- Lists of integers, of bools, as cells. -/
def iv (l : List Int) : List Value := l.map (Value.int .i64)
def bv (l : List Bool) : List Value := l.map Value.bool
theorem iv_get {l : List Int} {k : Nat} (h : k < l.length) : (iv l)[k]? = some (.int .i64 (nth l k)) := by
  unfold iv; rw [List.getElem?_map, nth_some h]; rfl
theorem iv_set (l : List Int) (k : Nat) (x : Int) : (iv l).set k (.int .i64 x) = iv (l.set k x) := by unfold iv; rw [List.map_set]
theorem iv_rep (n : Nat) (x : Int) : List.replicate n (Value.int .i64 x) = iv (List.replicate n x) := by unfold iv; rw [List.map_replicate]
theorem iv_len (l : List Int) : (iv l).length = l.length := List.length_map _
def bth (l : List Bool) (k : Nat) : Bool := l.getD k false
theorem bth_get {l : List Bool} {k : Nat} (h : k < l.length) : bth l k = l[k] := by simp [bth, h]
theorem bth_some {l : List Bool} {k : Nat} (h : k < l.length) : l[k]? = some (bth l k) := by rw [bth_get h, List.getElem?_eq_getElem h]
theorem bv_get {l : List Bool} {k : Nat} (h : k < l.length) : (bv l)[k]? = some (.bool (bth l k)) := by
  unfold bv; rw [List.getElem?_map, bth_some h]; rfl
theorem bv_set (l : List Bool) (k : Nat) (x : Bool) : (bv l).set k (.bool x) = bv (l.set k x) := by unfold bv; rw [List.map_set]
theorem bv_rep (n : Nat) (x : Bool) : List.replicate n (Value.bool x) = bv (List.replicate n x) := by unfold bv; rw [List.map_replicate]
theorem bv_len (l : List Bool) : (bv l).length = l.length := List.length_map _

theorem Blk.icell {w : World} {g : Nat} {e : TypeId} {l : List Int} (h : Blk w g e (iv l)) {k : Nat} (hk : k < l.length) : w.cell? ⟨g, k, none⟩ = some (.int .i64 (nth l k)) := h.cell (iv_get hk)
theorem Blk.iset {w : World} {g : Nat} {e : TypeId} {l : List Int} (h : Blk w g e (iv l)) (k : Nat) (x : Int) : Blk (w.setCell ⟨g, k, none⟩ (.int .i64 x)) g e (iv (l.set k x)) := by rw [← iv_set]; exact h.set_ k _
theorem Blk.bcell {w : World} {g : Nat} {e : TypeId} {l : List Bool} (h : Blk w g e (bv l)) {k : Nat} (hk : k < l.length) : w.cell? ⟨g, k, none⟩ = some (.bool (bth l k)) := h.cell (bv_get hk)
theorem Blk.bset {w : World} {g : Nat} {e : TypeId} {l : List Bool} (h : Blk w g e (bv l)) (k : Nat) (x : Bool) : Blk (w.setCell ⟨g, k, none⟩ (.bool x)) g e (bv (l.set k x)) := by rw [← bv_set]; exact h.set_ k _

/-- A whole block of integers as a slice that reads. -/
theorem Blk.rdI {w : World} {g : Nat} {e : TypeId} {l : List Int} (h : Blk w g e (iv l)) {B : Nat} (hB : g < B) : RdI w B (some ⟨g, 0, none⟩) l := fun _ =>
  ⟨g, 0, rfl, hB, fun j u hu => by rw [Nat.zero_add]; exact h.cell hu⟩
theorem nth_set {l : List Int} {k j : Nat} {x : Int} (hk : k < l.length) : nth (l.set k x) j = if k = j then x else nth l j := by
  unfold nth
  by_cases h : k = j
  · subst h; simp [List.getD, hk]
  · simp [List.getD, h]
theorem bth_set {l : List Bool} {k j : Nat} {x : Bool} (hk : k < l.length) : bth (l.set k x) j = if k = j then x else bth l j := by
  unfold bth
  by_cases h : k = j
  · subst h; simp [List.getD, hk]
  · simp [List.getD, h]
end Go.Proofs.YtkcpfpofimkkiaaGreatDoor
namespace Go.Proofs.YtkcpfpofimkkiaaGreatDoor
open Go.RowKit
set_option linter.unusedVariables false
set_option linter.unusedSimpArgs false
set_option maxRecDepth 100000

section
variable {P : Program} {t e : TypeId} {size bytes : Nat} {z : Value}

theorem run_app_zero (E : ElTy P t e size bytes z) (ty : TypeId) (w : World) (A : Option Addr) (n cap : Nat) (hc : n ≤ cap) (A' : Option Addr) (c : Nat) :
    (Builtin.append_ #[t, t] ty #[.slice A n cap, .slice A' 0 c]).run P w = .ok (.slice A n cap) w := by
  obtain ⟨i, hi, hz, hsz, hby⟩ := info_parts E.hi
  cases A <;> cases A' <;> simp [Builtin.append_, run_underlying E.ht, sizeOf, typeInfo, hi, Builtin.lenOf, Builtin.firstCells, loadCells, loadCellsFrom, storeCells, hc]

theorem wpList_app_rd (E : ElTy P t e size bytes z) {ops : Array Oper} {rest : List Oper} {o : Oper} {a : Act} {Q : Exit → Act → World → Prop} {w : World} (hgd : o.guard = none) (s x : Operand)
    (ho : o.op = .call { callee := .builtin .append, args := #[s, x], argTypes := #[t, t] })
    (base : Nat) (v : Value) (n m c B : Nat) (A : Option Addr) (xs news : List Value) (hs : a.eval s = v) (hown : w.ownsRow base e size v n xs)
    (hx : a.eval x = .slice A m c) (hl : news.length = m * size) (hr : Rd w B A news) (h1 : ∀ u ∈ news, u.oneCell' = true)
    (h63 : n + m ≤ 140737488355328) (hbytes : (n + m) * bytes ≤ 140737488355328) (hbase : base ≤ w.heap.size)
    (h : ∀ v' w', w'.ownsRow base e size v' (n + m) (xs ++ news) → w.grownBy w' v.ownBlock → (v'.ownBlock = v.ownBlock ∨ v'.ownBlock = some w.heap.size) → wpList P ops Q rest (a.put o.dst v') w') :
    wpList P ops Q (o :: rest) a w := by
  obtain ⟨i, hi, hz, hsz, hby⟩ := info_parts E.hi
  by_cases hm : m = 0
  · subst hm
    obtain rfl : news = [] := List.eq_nil_of_length_eq_zero (by simpa using hl)
    obtain ⟨A1, n1, c1, hv, hle⟩ : ∃ A1 n1 c1, v = .slice A1 n1 c1 ∧ n1 ≤ c1 := by
      rcases hown.2 with ⟨rfl, rfl⟩ | ⟨g, cap, cur, rfl, _, _, hn, _⟩
      · exact ⟨_, _, _, rfl, Nat.le_refl _⟩
      · exact ⟨_, _, _, rfl, hn⟩
    subst hv
    refine Lib.wpList_append_run w hgd s x t t ho _ _ hs hx _ w (run_app_zero E o.type w A1 n1 c1 hle A c) (h _ w ?_ ⟨rfl, rfl, rfl, Nat.le_refl _, fun _ _ _ => rfl⟩ (Or.inl rfl))
    rw [List.append_nil]; exact hown
  · have hne : news ≠ [] := by
      intro e0; subst e0
      have := E.hs
      have : 0 < m * size := Nat.mul_pos (by omega) this
      simp at hl; omega
    obtain ⟨b, off, rfl, hb, hc⟩ := hr hne
    refine wpList_append_own_at _ hgd s x t ho base e i z size bytes E.ht hi hz hsz hby E.hz E.hs v n xs hs hown ⟨b, off, none⟩ m c news hx hl (fun j u hu => ?_) h1 (by simp only [maxLen]; omega) hbytes hbase ?_
    · have hadd : (⟨b, off, none⟩ : Addr).add j = ⟨b, off + j, none⟩ := by unfold Addr.add; split <;> simp_all
      rw [hadd]; exact hc j u hu
    · intro v' w' h2 h3 _ h5
      exact h v' w' h2 h3 h5
end

theorem iv_one (l : List Int) : ∀ u ∈ iv l, u.oneCell' = true := by
  intro u hu
  unfold iv at hu
  rw [List.mem_map] at hu
  obtain ⟨x, _, rfl⟩ := hu
  rfl
end Go.Proofs.YtkcpfpofimkkiaaGreatDoor
namespace Go.Proofs.YtkcpfpofimkkiaaGreatDoor
open Go Go.RowKit
set_option linter.unusedVariables false

/-- A world that keeps, of w, what lies below block B. -/
structure WB (B : Nat) (w : World) where
  val : World
  bel : Below B w val

instance (B : Nat) (w : World) : Nonempty (WB B w) := ⟨⟨w, Below.refl _ _⟩⟩

theorem wp_region_cls {P : Program} {B : Nat} {w0 w : World} {id : Nat} {Q : Exit → Act → World → Prop} {a : Act} {l : List Oper} (hm : P.follows .mixedOrders = true) (hB : Region.lexB .any l.toArray = true) (hw : Below B w0 w)
    (h : wpQuiet P l.toArray (fun w' => ∃ X : WB B w0, w' = X.val) (fun a' => ∀ X : WB B w0, Q .normal a' X.val) l a) : (Code.region id l.toArray true).wp P Q a w :=
  wp_region_quiet (C := fun w' => ∃ X : WB B w0, w' = X.val) hm hB ⟨⟨{ w with drawn := w.drawn + 1 }, hw.trans ⟨rfl, rfl, rfl, Nat.le_refl _, fun _ _ => rfl⟩⟩, rfl⟩ (by
    have e : (fun a' => ∀ w', (∃ X : WB B w0, w' = X.val) → Q .normal a' w') = (fun a' => ∀ X : WB B w0, Q .normal a' X.val) := by
      funext a'
      apply propext
      exact ⟨fun h X => h _ ⟨X, rfl⟩, fun h w' ⟨X, e⟩ => e ▸ h X⟩
    simpa [e] using h)

/-- A callee's contract met in every world of the class. -/
theorem WB.call {P : Program} {B : Nat} {w0 : World} {f : FuncId} {args : Array Value} {v : Value} (X : WB B w0) (hB : B ≤ w0.heap.size) (h : Calls P f args X.val fun e w' => e = .returned v ∧ Below X.val.heap.size X.val w') :
    Calls P f args X.val fun e w'' => e = .returned v ∧ ∃ Y : WB B w0, w'' = Y.val :=
  h.mono fun e w'' ⟨he, hb⟩ => ⟨he, ⟨w'', X.bel.trans (hb.mono (Nat.le_trans hB X.bel.size))⟩, rfl⟩
theorem WB.call0 {P : Program} {B : Nat} {w0 : World} {f : FuncId} {args : Array Value} {v : Value} (X : WB B w0) (h : Calls P f args X.val fun e w' => e = .returned v ∧ X.val = w') :
    Calls P f args X.val fun e w'' => e = .returned v ∧ ∃ Y : WB B w0, w'' = Y.val :=
  h.mono fun e w'' ⟨he, hb⟩ => ⟨he, X, hb.symm⟩

/-- All blocks that were there are as they were, but those of S. -/
structure Kp (S : Nat → Prop) (w w' : World) : Prop where
  os : w'.os = w.os
  tape : w'.tape = w.tape
  output : w'.output = w.output
  size : w.heap.size ≤ w'.heap.size
  block : ∀ k, k < w.heap.size → ¬ S k → w'.heap[k]? = w.heap[k]?
section
variable {S S' : Nat → Prop} {a w w' : World}
theorem Kp.refl (S : Nat → Prop) (w : World) : Kp S w w := ⟨rfl, rfl, rfl, Nat.le_refl _, fun _ _ _ => rfl⟩
theorem Kp.trans (h : Kp S a w) (k : Kp S w w') : Kp S a w' :=
  ⟨k.os.trans h.os, k.tape.trans h.tape, k.output.trans h.output, Nat.le_trans h.size k.size, fun i hi hs => (k.block i (Nat.lt_of_lt_of_le hi h.size) hs).trans (h.block i hi hs)⟩
theorem Kp.mono (h : Kp S w w') (hs : ∀ k, k < w.heap.size → S k → S' k) : Kp S' w w' := ⟨h.os, h.tape, h.output, h.size, fun k hk hn => h.block k hk (fun e => hn (hs k hk e))⟩
theorem Kp.draws (h : Kp S a w) (n : Nat) : Kp S a (w.drewN n) := h.trans ⟨rfl, rfl, rfl, Nat.le_refl _, fun _ _ _ => rfl⟩
theorem Kp.draw (h : Kp S a w) : Kp S a w.drew := h.trans ⟨rfl, rfl, rfl, Nat.le_refl _, fun _ _ _ => rfl⟩
theorem Kp.alloc (h : Kp S a w) (o : Obj) : Kp S a (w.alloc o) :=
  have b : Below w.heap.size w (w.alloc o) := (Below.refl _ _).alloc (Nat.le_refl _) _
  h.trans ⟨b.os, b.tape, b.output, b.size, fun k hk _ => b.block k hk⟩
theorem Kp.set_ (h : Kp S a w) {p : Addr} (hp : a.heap.size ≤ p.block ∨ S p.block) (u : Value) : Kp S a (w.setCell p u) :=
  ⟨h.os, h.tape, h.output, by rw [show (w.setCell p u).heap.size = w.heap.size by simp [World.setCell]]; exact h.size, fun k hk hs => by
    rw [Below.heap_setCell w p u k (fun e => by subst e; rcases hp with hp | hp; exact absurd hk (by omega); exact hs hp)]
    exact h.block k hk hs⟩
theorem Kp.grown (h : Kp S a w) {row : Option Nat} (hg : w.grownBy w' row) (hr : ∀ k, row = some k → a.heap.size ≤ k ∨ S k) : Kp S a w' :=
  ⟨hg.os.trans h.os, hg.tape.trans h.tape, hg.output.trans h.output, Nat.le_trans h.size hg.size, fun k hk hs =>
    (hg.block k (Nat.lt_of_lt_of_le hk h.size) (fun e => by rcases hr k e.symm with q | q; exact absurd hk (by omega); exact hs q)).trans (h.block k hk hs)⟩
theorem Kp.of (h : Below w.heap.size w w') : Kp S w w' := ⟨h.os, h.tape, h.output, h.size, fun k hk _ => h.block k hk⟩
theorem Kp.bel (h : Kp S w w') {B : Nat} (hB : B ≤ w.heap.size) (hs : ∀ k, k < B → ¬ S k) : Below B w w' := ⟨h.os, h.tape, h.output, h.size, fun k hk => h.block k (Nat.lt_of_lt_of_le hk hB) (hs k hk)⟩
theorem Kp.cell (h : Kp S w w') {p : Addr} (hp : p.block < w.heap.size) (hs : ¬ S p.block) : w'.cell? p = w.cell? p := World.cell?_of_block (w := w) (h.block p.block hp hs)
end
end Go.Proofs.YtkcpfpofimkkiaaGreatDoor
