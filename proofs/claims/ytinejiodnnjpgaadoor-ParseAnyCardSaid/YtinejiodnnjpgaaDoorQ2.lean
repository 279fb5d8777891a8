/- A block known whole: made by make, read, written; and what stays. · Arguments opened: a slice of integers that came in. -/
import Derived.Test.YtinejiodnnjpgaaDoorQ1
import Derived.Deep.OwnRows
import Derived.Test.YtinejiodnnjpgaaDoorProg
import Derived.ProofKit
import Derived.OpenShut
namespace Go.Proofs.YtinejiodnnjpgaaDoor
open Go.RowKit
set_option linter.unusedVariables false
set_option linter.unusedSimpArgs false
set_option maxRecDepth 100000

def Blk (w : World) (g : Nat) (e : TypeId) (vs : List Value) : Prop := w.heap[g]? = some (.cells vs.toArray e (0, 0))

section
variable {w w' : World} {g : Nat} {e : TypeId} {vs : List Value}
theorem Blk.lt (h : Blk w g e vs) : g < w.heap.size := (Array.getElem?_eq_some_iff.1 h).1
theorem Blk.cell (h : Blk w g e vs) {i : Nat} {u : Value} (hu : vs[i]? = some u) : w.cell? ⟨g, i, none⟩ = some u := by
  rw [cell_of_row w g i _ e (0, 0) h]; simpa using hu
theorem Blk.frozen (h : Blk w g e vs) (i : Nat) : w.frozen? ⟨g, i, none⟩ = false := by
  unfold Blk at h
  simp [World.frozen?, h]
theorem Blk.new (w : World) (e : TypeId) (vs : List Value) : Blk (w.alloc (.cells vs.toArray e)) w.heap.size e vs := heap_alloc_new w _
theorem Blk.drew (h : Blk w g e vs) : Blk w.drew g e vs := h
theorem Blk.drewN (h : Blk w g e vs) (n : Nat) : Blk (w.drewN n) g e vs := h
theorem Blk.alloc (h : Blk w g e vs) (o : Obj) : Blk (w.alloc o) g e vs := (Below.heap_alloc w o g h.lt).trans h
theorem Blk.set_ (h : Blk w g e vs) (i : Nat) (u : Value) : Blk (w.setCell ⟨g, i, none⟩ u) g e (vs.set i u) := by
  unfold Blk at h ⊢
  simp [World.setCell, Array.getElem?_modify, h]
theorem Blk.far (h : Blk w g e vs) {p : Addr} (hp : g ≠ p.block) (u : Value) : Blk (w.setCell p u) g e vs := (Below.heap_setCell w p u g hp).trans h
theorem Blk.below {B : Nat} (h : Blk w g e vs) (hb : Below B w w') (hg : g < B) : Blk w' g e vs := (hb.block g hg).trans h
theorem Blk.below' (h : Blk w g e vs) (hb : Below w.heap.size w w') : Blk w' g e vs := h.below hb h.lt
theorem Blk.grown {row : Option Nat} (h : Blk w g e vs) (hb : w.grownBy w' row) (hg : some g ≠ row) : Blk w' g e vs := (hb.block g h.lt hg).trans h
end

theorem setCell_size (w : World) (p : Addr) (u : Value) : (w.setCell p u).heap.size = w.heap.size := by simp [World.setCell]

/-- n zeros. -/
def zs (z : Value) (n : Nat) : Array Value := (List.replicate n z).toArray

theorem madeCells_one (z : Value) (n : Nat) : madeCells #[z] n = zs z n := by
  apply Array.ext'
  simp [madeCells, zs]
  apply List.ext_getElem?
  intro i
  by_cases h : i < n
  · simp [h, Nat.mod_one]
  · simp [h]

theorem mk_row {P : Program} {t e : TypeId} {bytes : Nat} {z : Value} (E : ElTy P t e 1 bytes z) (hz1 : z.cells = #[z]) (kl kc : IntKind) (n : Nat) (k : Int) (hk : k = n) (hbytes : bytes * n ≤ 281474976710656) (h63 : n ≤ 9223372036854775807) (w : World) :
    (Instr.makeSlice t (.int kl k) (.int kc k)).run P w = .ok (.slice (some ⟨w.heap.size, 0, none⟩) n n) (w.alloc (.cells (zs z n) e)) := by
  subst hk
  rw [run_make_row' t e z bytes E.ht E.hi hz1 kl kc n hbytes h63 w, madeCells_one]

theorem Blk.made (w : World) (e : TypeId) (z : Value) (n : Nat) : Blk (w.alloc (.cells (zs z n) e)) w.heap.size e (List.replicate n z) := heap_alloc_new w _

/-- Lists of integers, of bools, as cells. -/
def iv (l : List Int) : List Value := l.map (Value.int .i64)
def bv (l : List Bool) : List Value := l.map Value.bool
theorem iv_get {l : List Int} {k : Nat} (h : k < l.length) : (iv l)[k]? = some (.int .i64 (nth l k)) := by
  unfold iv; rw [List.getElem?_map, nth_some h]; rfl
theorem iv_set (l : List Int) (k : Nat) (x : Int) : (iv l).set k (.int .i64 x) = iv (l.set k x) := by unfold iv; rw [List.map_set]
theorem iv_rep (n : Nat) (x : Int) : List.replicate n (Value.int .i64 x) = iv (List.replicate n x) := by unfold iv; rw [List.map_replicate]
theorem iv_len (l : List Int) : (iv l).length = l.length := List.length_map _
def bth (l : List Bool) (k : Nat) : Bool := l.getD k false
theorem bth_get {l : List Bool} {k : Nat} (h : k < l.length) : bth l k = l[k] := by simp [bth, h]
theorem bth_some {l : List Bool} {k : Nat} (h : k < l.length) : l[k]? = some (bth l k) := by rw [bth_get h, List.getElem?_eq_getElem h]
theorem bv_get {l : List Bool} {k : Nat} (h : k < l.length) : (bv l)[k]? = some (.bool (bth l k)) := by
  unfold bv; rw [List.getElem?_map, bth_some h]; rfl
theorem bv_set (l : List Bool) (k : Nat) (x : Bool) : (bv l).set k (.bool x) = bv (l.set k x) := by unfold bv; rw [List.map_set]
theorem bv_rep (n : Nat) (x : Bool) : List.replicate n (Value.bool x) = bv (List.replicate n x) := by unfold bv; rw [List.map_replicate]
theorem bv_len (l : List Bool) : (bv l).length = l.length := List.length_map _

theorem Blk.icell {w : World} {g : Nat} {e : TypeId} {l : List Int} (h : Blk w g e (iv l)) {k : Nat} (hk : k < l.length) : w.cell? ⟨g, k, none⟩ = some (.int .i64 (nth l k)) := h.cell (iv_get hk)
theorem Blk.iset {w : World} {g : Nat} {e : TypeId} {l : List Int} (h : Blk w g e (iv l)) (k : Nat) (x : Int) : Blk (w.setCell ⟨g, k, none⟩ (.int .i64 x)) g e (iv (l.set k x)) := by rw [← iv_set]; exact h.set_ k _
theorem Blk.bcell {w : World} {g : Nat} {e : TypeId} {l : List Bool} (h : Blk w g e (bv l)) {k : Nat} (hk : k < l.length) : w.cell? ⟨g, k, none⟩ = some (.bool (bth l k)) := h.cell (bv_get hk)
theorem Blk.bset {w : World} {g : Nat} {e : TypeId} {l : List Bool} (h : Blk w g e (bv l)) (k : Nat) (x : Bool) : Blk (w.setCell ⟨g, k, none⟩ (.bool x)) g e (bv (l.set k x)) := by rw [← bv_set]; exact h.set_ k _

/-- A whole block of integers as a slice that reads. -/
theorem Blk.rdI {w : World} {g : Nat} {e : TypeId} {l : List Int} (h : Blk w g e (iv l)) {B : Nat} (hB : g < B) : RdI w B (some ⟨g, 0, none⟩) l := fun _ =>
  ⟨g, 0, rfl, hB, fun j u hu => by rw [Nat.zero_add]; exact h.cell hu⟩
theorem nth_set {l : List Int} {k j : Nat} {x : Int} (hk : k < l.length) : nth (l.set k x) j = if k = j then x else nth l j := by
  unfold nth
  by_cases h : k = j
  · subst h; simp [List.getD, hk]
  · simp [List.getD, h]
theorem bth_set {l : List Bool} {k j : Nat} {x : Bool} (hk : k < l.length) : bth (l.set k x) j = if k = j then x else bth l j := by
  unfold bth
  by_cases h : k = j
  · subst h; simp [List.getD, hk]
  · simp [List.getD, h]
end Go.Proofs.YtinejiodnnjpgaaDoor
namespace Go.Proofs.YtinejiodnnjpgaaDoor
open Go.ChangeShapes Go.WideShapes Go.ChangeAt Go.RowKit
set_option linter.unusedVariables false
set_option linter.unusedSimpArgs false
set_option maxRecDepth 100000

/-- The value is a slice of integers in memory below the heap's end. -/
def IsInts (W : World) (v : Value) : Prop := ∃ A n c l, v = .slice A n c ∧ List.length l = n ∧ n ≤ c ∧ c ≤ maxLen ∧ RdI W W.heap.size A l ∧ ∀ x ∈ l, (Lit.int .i64 x).wf = true

theorem take_nth (zs : List Int) (n j : Nat) (h : j < n) : nth (zs.take n) j = zs.getD j 0 := by
  unfold nth
  simp [List.getD, h]

theorem open_IsInts {H : Type} {enc : TypeId × Value → H} {W : World} {base : Nat} {r : Reach} {b0 : Nat} {v : Value} {d : DataW H} {p : List MemPlace} {held : Bool}
    (hv : Value.okWide Tryd.prog W r b0 32 v) (h : DataW.Trod enc Tryd.prog W base (fun _ => true) held 32 v d p) : IsInts W v := by
  obtain ⟨a, len, cap, rfl⟩ := okWide_slice Tryd.underlying32 hv
  obtain ⟨fuel, hf⟩ := h
  rcases open_ints Tryd.underlying32 Tryd.underlying3 (by kernel_rfl) hf with ⟨hcs, _⟩ | ⟨x, l, c, zs, hcs, _, hl, hm, hz, _, hcell, hwz⟩
  · simp [Value.cells] at hcs
    obtain ⟨rfl, rfl, rfl⟩ := hcs
    exact ⟨none, 0, 0, [], rfl, rfl, Nat.le_refl _, Nat.zero_le _, Rd.nil _ _ _, fun x hx => by cases hx⟩
  · simp [Value.cells] at hcs
    obtain ⟨rfl, rfl, rfl⟩ := hcs
    have hz : zs.length = cap := by simpa using hz
    refine ⟨some x, len, cap, zs.take len, rfl, by rw [List.length_take]; omega, hl, hm, fun hne => ?_, fun n hn => hwz n (List.mem_of_mem_take hn)⟩
    have hlen : 0 < len := by
      rcases Nat.eq_zero_or_pos len with h0 | h0
      · subst h0; simp at hne
      · exact h0
    obtain ⟨b, off, spot⟩ := x
    have hc0 := hcell 0 (by omega)
    have hspot : spot = none := by simpa [Addr.add] using World.cell?_spot hc0
    subst hspot
    refine ⟨b, off, rfl, World.block_lt_of_cell? W _ hc0, fun j u hu => ?_⟩
    rw [List.getElem?_map] at hu
    have hj : j < len := by
      rcases Nat.lt_or_ge j len with h0 | h0
      · exact h0
      · rw [List.getElem?_eq_none (by rw [List.length_take]; omega)] at hu; cases hu
    rw [nth_some (by rw [List.length_take]; omega), take_nth zs len j hj] at hu
    simp at hu
    subst hu
    have := hcell j (by omega)
    have hadd : (⟨b, off, none⟩ : Addr).add j = ⟨b, off + j, none⟩ := by unfold Addr.add; split <;> simp_all
    rw [hadd] at this
    simpa using this
end Go.Proofs.YtinejiodnnjpgaaDoor
