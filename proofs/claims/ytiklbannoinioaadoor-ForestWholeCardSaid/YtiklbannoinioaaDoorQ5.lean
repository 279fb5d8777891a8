/- Plain: charts, the trees that the program tells. No program here. · Memory: maps whose keys are three numbers (items, spans). · Memory: a chart, as the trees' functions read it; the set of open spans. -/
import Derived.Test.YtiklbannoinioaaDoorQ4
import Derived.Test.YtiklbannoinioaaDoorQ1
import Derived.Test.YtiklbannoinioaaDoorQ2
import Derived.Test.YtiklbannoinioaaDoorProg
import Derived.Maps.RangeWalk
import Derived.Maps.OwnOps
import Derived.Maps.OwnSet
import Derived.DeepKeys4
import Derived.MapViews
import Derived.WalkArith
import Derived.Test.YtiklbannoinioaaDoorQ3
namespace Go.Proofs.YtiklbannoinioaaDoor
set_option linter.unusedVariables false
set_option linter.unusedSimpArgs false

/-- Three numbers: an item (production, place in it, from), or a span (name, from, to). -/
abbrev K3 := Nat × Nat × Nat
/-- A chart: of each place its items; the spans that stand. -/
structure Ct where
  I : Nat → List K3
  L : List K3
def rtN (G : Gr) (p : Nat) : List Int := (prodAt G (p : Int)).2.1
def lfN (G : Gr) (p : Nat) : Int := (prodAt G (p : Int)).1
/-- The productions of a name. -/
def byN (G : Gr) (a : Nat) : List Nat := (List.range G.prods.length).filter fun p => decide (lfN G p = (a : Int))
def mids (i j : Nat) : List Nat := (List.range (j + 1 - i)).map (i + ·)
def stB (C : Ct) (inp : List Int) (s : Int) (i j : Nat) : Bool := if 0 ≤ s then decide (j = i + 1 ∧ nth inp i = s) else decide (((-1 - s).toNat, i, j) ∈ C.L)
def restB (C : Ct) (inp : List Int) : List Int → Nat → Nat → Bool
  | [], i, j => decide (i = j)
  | s :: r, i, j => (mids i j).any fun m => stB C inp s i m && restB C inp r m j
def rowsT (C : Ct) (inp : List Int) (tf : Int → Nat → Nat → List Tr) : List Int → Nat → Nat → List (List Tr)
  | [], i, j => if i = j then [[]] else []
  | s :: r, i, j => (mids i j).flatMap fun m => if stB C inp s i m && restB C inp r m j then (tf s i m).flatMap fun k => (rowsT C inp tf r m j).map (k :: ·) else []
def fitB (C : Ct) (p at_ i j : Nat) : Bool := decide ((p, at_, i) ∈ C.I j)
def allOf (tr : K3 → List Tr) (s : Int) (i j : Nat) : List Tr := if 0 ≤ s then [.node (-1) (i : Int) []] else tr ((-1 - s).toNat, i, j)
/-- The trees of a span, none of which has a span of O in it. -/
def treesT (C : Ct) (G : Gr) (inp : List Int) : Nat → List K3 → K3 → List Tr
  | 0, _, _ => []
  | f + 1, O, x => if x ∈ O ∨ x ∉ C.L then [] else (byN G x.1).flatMap fun p => if fitB C p (rtN G p).length x.2.1 x.2.2 then (rowsT C inp (allOf (treesT C G inp f (x :: O))) (rtN G p) x.2.1 x.2.2).map (Tr.node (p : Int) 0) else []

theorem mids_nil {i j : Nat} (h : j < i) : mids i j = [] := by unfold mids; rw [show j + 1 - i = 0 by omega]; rfl
theorem mids_len {i j : Nat} : (mids i j).length = j + 1 - i := by unfold mids; simp
theorem mem_mids {i j m : Nat} : m ∈ mids i j ↔ i ≤ m ∧ m ≤ j := by
  unfold mids
  simp only [List.mem_map, List.mem_range]
  constructor
  · rintro ⟨k, h1, rfl⟩; omega
  · rintro ⟨h1, h2⟩; exact ⟨m - i, by omega, by omega⟩
/-- The first k of them. -/
def midsTo (i k : Nat) : List Nat := (List.range k).map (i + ·)
theorem midsTo_succ {i k : Nat} : midsTo i (k + 1) = midsTo i k ++ [i + k] := by unfold midsTo; rw [List.range_succ]; simp
theorem midsTo_all {i j : Nat} : midsTo i (j + 1 - i) = mids i j := rfl
theorem mem_byN {G : Gr} {a p : Nat} : p ∈ byN G a ↔ p < G.prods.length ∧ lfN G p = (a : Int) := by unfold byN; simp
end Go.Proofs.YtiklbannoinioaaDoor
namespace Go.Proofs.YtiklbannoinioaaDoor
open Go.RowKit BigFrame Go.Maps
set_option linter.unusedVariables false
set_option linter.unusedSimpArgs false
set_option maxRecDepth 100000

theorem laidOutK : laidOutB Tryd.prog = true := by kernel_rfl


def inK (x : K3) : Prop := x.1 ≤ 1000 ∧ x.2.1 ≤ 1000 ∧ x.2.2 ≤ 1000
def kV (x : K3) : Value := .agg #[.int .i64 (x.1 : Int), .int .i64 (x.2.1 : Int), .int .i64 (x.2.2 : Int)]
def kL (x : K3) : Lit := .string (keyBytes [.int .i64 (x.1 : Int), .int .i64 (x.2.1 : Int), .int .i64 (x.2.2 : Int)])
theorem wf_natK {a : Nat} (h : a ≤ 100000) : (Lit.int .i64 (a : Int)).wf = true := WalkArith.wf_i64 (by omega)
theorem lawI3 : Keyed Tryd.prog 92 := Keyed.of_law (deep_law_laid laidOutK (m := 8) (by decide) (of_decide_eq_true (by kernel_rfl)) (by kernel_rfl) (by kernel_rfl))
theorem keyI3 {x : K3} (hx : inK x) : keyOf Tryd.prog 92 (kV x) = some (kL x) := by
  have h1 := wf_natK (a := x.1) (by have := hx.1; omega)
  have h2 := wf_natK (a := x.2.1) (by have := hx.2.1; omega)
  have h2b := wf_natK (a := x.2.2) (by have := hx.2.2; omega)
  have c1 : Tryd.prog.cellsOf 3 = 1 := by kernel_rfl
  have c2 : Tryd.prog.cellsOf 92 = 3 := by kernel_rfl
  have h3 : Tryd.prog.keyType 92 = true := by kernel_rfl
  have h4 : (kV x).formed Tryd.prog 92 = true := by
    unfold kV Value.formed
    simp [Tryd.underlying92, c2]
  have h5 : ∀ d, Tryd.prog.keyLits (d + 2) 92 (kV x).cells.toList = some [.int .i64 (x.1 : Int), .int .i64 (x.2.1 : Int), .int .i64 (x.2.2 : Int)] := fun d => by
    have hr : List.range 3 = [0, 1, 2] := rfl
    unfold kV
    simp [Program.keyLits, hr, Tryd.underlying92, Tryd.underlying3, c1, c2, h1, h2, h2b, Value.cells]
  obtain ⟨d, hd⟩ : ∃ d, Tryd.prog.types.size + 1 = d + 2 := ⟨_, rfl⟩
  unfold keyOf
  rw [Tryd.underlying92]
  simp only [h3, h4, hd, h5, Bool.and_self, if_true, Option.map_some]
  rfl
theorem lawS3 : Keyed Tryd.prog 46 := Keyed.of_law (deep_law_laid laidOutK (m := 8) (by decide) (of_decide_eq_true (by kernel_rfl)) (by kernel_rfl) (by kernel_rfl))
theorem keyS3 {x : K3} (hx : inK x) : keyOf Tryd.prog 46 (kV x) = some (kL x) := by
  have h1 := wf_natK (a := x.1) (by have := hx.1; omega)
  have h2 := wf_natK (a := x.2.1) (by have := hx.2.1; omega)
  have h2b := wf_natK (a := x.2.2) (by have := hx.2.2; omega)
  have c1 : Tryd.prog.cellsOf 3 = 1 := by kernel_rfl
  have c2 : Tryd.prog.cellsOf 46 = 3 := by kernel_rfl
  have h3 : Tryd.prog.keyType 46 = true := by kernel_rfl
  have h4 : (kV x).formed Tryd.prog 46 = true := by
    unfold kV Value.formed
    simp [Tryd.underlying46, c2]
  have h5 : ∀ d, Tryd.prog.keyLits (d + 2) 46 (kV x).cells.toList = some [.int .i64 (x.1 : Int), .int .i64 (x.2.1 : Int), .int .i64 (x.2.2 : Int)] := fun d => by
    have hr : List.range 3 = [0, 1, 2] := rfl
    unfold kV
    simp [Program.keyLits, hr, Tryd.underlying46, Tryd.underlying3, c1, c2, h1, h2, h2b, Value.cells]
  obtain ⟨d, hd⟩ : ∃ d, Tryd.prog.types.size + 1 = d + 2 := ⟨_, rfl⟩
  unfold keyOf
  rw [Tryd.underlying46]
  simp only [h3, h4, hd, h5, Bool.and_self, if_true, Option.map_some]
  rfl

/-- How an element reads: a number, or a slice. -/
def gElem : Value → Option (DataW Unit × List MemPlace)
  | .int .i64 x => some (.lit (.int .i64 x), [])
  | .slice none n c => some (.agg [.lit (.int .i64 n), .lit (.int .i64 c)], [])
  | .slice (some ⟨b, o, none⟩) n c => some (.agg [.lit (.int .i64 b), .lit (.int .i64 o), .lit (.int .i64 n), .lit (.int .i64 c)], [])
  | _ => none
theorem gElem_inj {u v : Value} {d : DataW Unit} {p q : List MemPlace} (hu : gElem u = some (d, p)) (hv : gElem v = some (d, q)) : u = v := by
  unfold gElem at hu hv
  split at hu <;> split at hv <;> first | (simp only [Option.some.injEq, Prod.mk.injEq, reduceCtorEq] at hu hv; done) | skip
  all_goals (simp only [Option.some.injEq, Prod.mk.injEq] at hu hv; obtain ⟨rfl, -⟩ := hu; obtain ⟨e, -⟩ := hv; simp at e)
  · rw [e]
  · obtain ⟨e1, e2⟩ := e
    rw [Int.ofNat.inj e1, Int.ofNat.inj e2]
  · obtain ⟨e1, e2, e3, e4⟩ := e
    rw [Int.ofNat.inj e1, Int.ofNat.inj e2, Int.ofNat.inj e3, Int.ofNat.inj e4]
theorem gElem_nil {v : Value} {d : DataW Unit} {p : List MemPlace} (h : gElem v = some (d, p)) : p = [] := by
  unfold gElem at h
  split at h <;> simp at h <;> exact h.2

/-- Map b, of n entries, leads from keys to elements as f says; z: the zero element. -/
def KMap (K : TypeId) (z : Value) (w : World) (b n : Nat) (f : K3 → Option Value) : Prop :=
  ∃ (D zd : DataW Unit), w.ownsMap Tryd.prog K gElem b n D ∧ Maps.size D = n ∧ gElem z = some (zd, []) ∧ ∀ x, inK x → Maps.has D (kL x) = (f x).isSome ∧ gElem ((f x).getD z) = some (D.atKey (kL x) zd, [])
section
variable {K : TypeId} {z : Value} {w w' : World} {b n : Nat} {f : K3 → Option Value}
theorem KMap.lt (h : KMap K z w b n f) : b < w.heap.size := by obtain ⟨D, zd, hD, _⟩ := h; exact hD.lt
theorem KMap.same (h : KMap K z w b n f) (e : w'.heap[b]? = w.heap[b]?) : KMap K z w' b n f := by
  obtain ⟨D, zd, ⟨es, clock, h1, h2⟩, h3⟩ := h
  exact ⟨D, zd, ⟨es, clock, e.trans h1, h2⟩, h3⟩
theorem KMap.keep {S : Nat → Prop} (h : KMap K z w b n f) (hk : Kp S w w') (hn : ¬ S b) : KMap K z w' b n f := h.same (hk.block b h.lt hn)
theorem KMap.congr {f' : K3 → Option Value} (h : KMap K z w b n f) (e : ∀ x, inK x → f' x = f x) : KMap K z w b n f' := by
  obtain ⟨D, zd, hD, h1, h2, h3⟩ := h
  exact ⟨D, zd, hD, h1, h2, fun x hx => by rw [e x hx]; exact h3 x hx⟩
theorem KMap.made (K : TypeId) {z : Value} {zd : DataW Unit} (hz : gElem z = some (zd, [])) (w : World) : KMap K z (w.alloc (.map #[] 0)) w.heap.size 0 (fun _ => none) :=
  ⟨.map [], zd, World.ownsMap_made _ _ _ _, rfl, hz, fun x _ => ⟨by simp [Maps.has], hz⟩⟩
/-- A map is no block of cells. -/
theorem KMap.ne (h : KMap K z w b n f) {g : Nat} {e : TypeId} {vs : List Value} (hg : Blk w g e vs) : b ≠ g := by
  rintro rfl
  obtain ⟨D, zd, ⟨es, clock, h1, _⟩, _⟩ := h
  unfold Blk at hg
  rw [h1] at hg
  cases hg
theorem kL_inj (law : Keyed Tryd.prog K) (key : ∀ x, inK x → keyOf Tryd.prog K (kV x) = some (kL x)) {x y : K3} (hx : inK x) (hy : inK y) (h : kL x = kL y) : x = y := by
  have h1 := key x hx
  have h2 := key y hy
  rw [← h] at h2
  have h3 := law.inj h1 h2
  unfold kV at h3
  simp at h3
  exact Prod.ext (by omega) (Prod.ext (by omega) (by omega))
section
variable {t e : TypeId}
theorem KMap.look2 (h : KMap K z w b n f) (law : Keyed Tryd.prog K) (key : ∀ x, inK x → keyOf Tryd.prog K (kV x) = some (kL x)) (ht : Tryd.prog.underlying t = some (.map K e)) (hz : (zeroValue e).run Tryd.prog w = .ok z w) {x : K3} (hx : inK x) :
    (Instr.lookup t (.map (some b)) (kV x) true).run Tryd.prog w = .ok (.tuple #[(f x).getD z, .bool (f x).isSome]) w := by
  obtain ⟨D, zd, hD, _, hzd, h2⟩ := h
  obtain ⟨v, ps, hrun, hv⟩ := hD.look_ok (t := t) (e := e) law ht (z := z) hz (zd := zd) (zp := []) hzd (key x hx)
  obtain ⟨e1, e2⟩ := h2 x hx
  rw [hrun, e1, gElem_inj hv e2]
theorem KMap.look1 (h : KMap K z w b n f) (law : Keyed Tryd.prog K) (key : ∀ x, inK x → keyOf Tryd.prog K (kV x) = some (kL x)) (ht : Tryd.prog.underlying t = some (.map K e)) (hz : (zeroValue e).run Tryd.prog w = .ok z w) {x : K3} (hx : inK x) :
    (Instr.lookup t (.map (some b)) (kV x) false).run Tryd.prog w = .ok ((f x).getD z) w := by
  obtain ⟨D, zd, hD, _, hzd, h2⟩ := h
  obtain ⟨v, ps, hrun, hv⟩ := hD.lookup (t := t) (e := e) law ht (z := z) hz (zd := zd) (zp := []) hzd (key x hx)
  rw [hrun, gElem_inj hv (h2 x hx).2]
theorem KMap.put (h : KMap K z w b n f) (law : Keyed Tryd.prog K) (key : ∀ x, inK x → keyOf Tryd.prog K (kV x) = some (kL x)) (ht : Tryd.prog.underlying t = some (.map K e)) {x : K3} (hx : inK x) {v : Value} {d : DataW Unit} (hv : gElem v = some (d, [])) (hn : n < maxLen) :
    ∃ w', (Instr.mapUpdate t (.map (some b)) (kV x) v).run Tryd.prog w = .ok () w' ∧ KMap K z w' b (if (f x).isSome then n else n + 1) (fun y => if y = x then some v else f y) ∧ w.grownBy w' (some b) := by
  obtain ⟨D, zd, hD, hsz, hzd, h2⟩ := h
  obtain ⟨w', hrun, hD', hg⟩ := hD.update (t := t) (e := e) law ht hn (key x hx) (val := v) hv
  have hs' := size_put (k := kL x) (hD.tidy law) d
  rw [(h2 x hx).1, hsz] at hs'
  obtain ⟨es, clock, g1, g2, g3, g4⟩ := hD'
  have g5 : Maps.size (D.put (kL x) d) = es.size := by rw [g4]; simp [Maps.size, length_sorted]
  refine ⟨w', hrun, ⟨_, zd, ⟨es, clock, g1, g2, by omega, g4⟩, hs', hzd, fun y hy => ?_⟩, hg⟩
  simp only
  by_cases e : y = x
  · subst e
    rw [if_pos rfl]
    exact ⟨by rw [has_put_same hD.isMap (by exact trivial)]; rfl, by rw [atKey_put_same hD.isMap (by exact trivial)]; exact hv⟩
  · rw [if_neg e]
    exact ⟨by rw [has_put_other (fun q => e (kL_inj law key hy hx q))]; exact (h2 y hy).1, by rw [atKey_put_other (fun q => e (kL_inj law key hy hx q))]; exact (h2 y hy).2⟩
theorem KMap.del (h : KMap K z w b n f) (law : Keyed Tryd.prog K) (key : ∀ x, inK x → keyOf Tryd.prog K (kV x) = some (kL x)) (ht : Tryd.prog.underlying t = some (.map K e)) {x : K3} (hx : inK x) (ty : TypeId) :
    ∃ w', (Builtin.delete_ #[t, K] ty #[.map (some b), kV x]).run Tryd.prog w = .ok (.tuple #[]) w' ∧ KMap K z w' b (if (f x).isSome then n - 1 else n) (fun y => if y = x then none else f y) ∧ w.grownBy w' (some b) := by
  obtain ⟨D, zd, hD, hsz, hzd, h2⟩ := h
  obtain ⟨w', hrun, hD', hg⟩ := hD.drop (t := t) (e := e) law ht (key x hx) ty
  have hs' := size_del (k := kL x) (hD.tidy law)
  rw [(h2 x hx).1, hsz] at hs'
  obtain ⟨es, clock, g1, g2, g3, g4⟩ := hD'
  have g5 : Maps.size (D.del (kL x)) = es.size := by rw [g4]; simp [Maps.size, length_sorted]
  have hs2 : Maps.size (D.del (kL x)) = if (f x).isSome then n - 1 else n := by split <;> rename_i q <;> simp only [q, if_true, if_false, Bool.false_eq_true] at hs' <;> omega
  refine ⟨w', hrun, ⟨_, zd, ⟨es, clock, g1, g2, by omega, g4⟩, hs2, hzd, fun y hy => ?_⟩, hg.grown⟩
  simp only
  by_cases e : y = x
  · subst e
    rw [if_pos rfl]
    exact ⟨by rw [has_del_same]; rfl, by rw [atKey_del_same]; exact hzd⟩
  · rw [if_neg e]
    exact ⟨by rw [has_del_other (fun q => e (kL_inj law key hy hx q))]; exact (h2 y hy).1, by rw [atKey_del_other (fun q => e (kL_inj law key hy hx q))]; exact (h2 y hy).2⟩
end
end
end Go.Proofs.YtiklbannoinioaaDoor
namespace Go.Proofs.YtiklbannoinioaaDoor
open Go.RowKit BigFrame Go.Maps
set_option linter.unusedVariables false
set_option linter.unusedSimpArgs false
set_option maxRecDepth 100000

/-- A slice of integers whose block is one of S. -/
def RdS (w : World) (S : Nat → Prop) (A : Option Addr) (l : List Int) : Prop :=
  0 < l.length → ∃ b off, A = some ⟨b, off, none⟩ ∧ S b ∧ ∀ j, j < l.length → w.cell? ⟨b, off + j, none⟩ = some (.int .i64 (nth l j))
theorem RdS.keep {w w' : World} {S : Nat → Prop} {A : Option Addr} {l : List Int} (h : RdS w S A l) (hk : ∀ b, S b → w'.heap[b]? = w.heap[b]?) : RdS w' S A l := fun h0 => by
  obtain ⟨b, off, e, hb, hc⟩ := h h0
  exact ⟨b, off, e, hb, fun j hj => (World.cell?_of_block (a := ⟨b, off + j, none⟩) (hk b hb)).trans (hc j hj)⟩
def oneV : Value := .int .i64 1
def zeroV : Value := .int .i64 0
theorem g_one : gElem oneV = some (.lit (.int .i64 1), []) := rfl
theorem g_zero : gElem zeroV = some (.lit (.int .i64 0), []) := rfl
/-- The map of a place's set has just the items of l. -/
def ItM (w : World) (b : Nat) (l : List K3) : Prop := ∃ n f, KMap 92 zeroV w b n f ∧ ∀ x, inK x → (f x).isSome = decide (x ∈ l)
/-- A map of spans that has just those of l, each with one. -/
def SpM (w : World) (b n : Nat) (l : List K3) : Prop := KMap 46 zeroV w b n (fun x => if x ∈ l then some oneV else none)
/-- The spans that are open. -/
def Opn (m : Nat) (O : List K3) (w : World) : Prop := SpM w m O.length O

/-- A chart in memory: at the block c; of blocks of S alone, but for the map m of open spans. -/
structure ChIn (w : World) (S : Nat → Prop) (B c m : Nat) (G : Gr) (Ap Al As : Option Addr) (np cp nl cl ns cs : Nat) (Ai : Option Addr) (ni ci : Nat) (inp : List Int) (C : Ct) : Prop where
  lo : ∀ k, k < B → S k
  cS : S c
  g0 : w.cell? ⟨c, 0, none⟩ = some (.int .i64 G.terms)
  g1 : w.cell? ⟨c, 1, none⟩ = some (.int .i64 G.names)
  g2 : w.cell? ⟨c, 2, none⟩ = some (.int .i64 G.start)
  g3 : w.cell? ⟨c, 3, none⟩ = some (.slice Ap np cp)
  gi : GrIn w B G Ap Al As np cp nl cl ns cs
  c6 : w.cell? ⟨c, 6, none⟩ = some (.slice Ai ni ci)
  li : inp.length = ni
  mi : ni ≤ ci ∧ ci ≤ maxLen
  ri : RdI w B Ai inp
  by_ : ∃ bn nb cb, w.cell? ⟨c, 7, none⟩ = some (.slice (some ⟨bn, 0, none⟩) nb cb) ∧ (nb : Int) = G.names ∧ nb ≤ cb ∧ cb ≤ maxLen ∧ S bn ∧ ∀ a, a < nb → ∃ A' c', w.cell? ⟨bn, a, none⟩ = some (.slice A' (byN G a).length c') ∧ (byN G a).length ≤ c' ∧ c' ≤ maxLen ∧ RdS w S A' ((byN G a).map fun (p : Nat) => (p : Int))
  it : ∃ bi cb, w.cell? ⟨c, 8, none⟩ = some (.slice (some ⟨bi, 0, none⟩) (ni + 1) cb) ∧ ni + 1 ≤ cb ∧ cb ≤ maxLen ∧ S bi ∧ ∀ k, k ≤ ni → ∃ s mk, w.cell? ⟨bi, k, none⟩ = some (.pointer (some ⟨s, 0, none⟩)) ∧ S s ∧ w.cell? ⟨s, 1, none⟩ = some (.map (some mk)) ∧ S mk ∧ ItM w mk (C.I k)
  sp : ∃ ms ns, w.cell? ⟨c, 9, none⟩ = some (.map (some ms)) ∧ S ms ∧ SpM w ms ns C.L
  op : w.cell? ⟨c, 11, none⟩ = some (.map (some m))
section
variable {w w' : World} {S : Nat → Prop} {B c m : Nat} {G : Gr} {Ap Al As : Option Addr} {np cp nl cl ns cs : Nat} {Ai : Option Addr} {ni ci : Nat} {inp : List Int} {C : Ct}
theorem ItM.same {b : Nat} {l : List K3} (h : ItM w b l) (e : w'.heap[b]? = w.heap[b]?) : ItM w' b l := by
  obtain ⟨n, f, h1, h2⟩ := h
  exact ⟨n, f, h1.same e, h2⟩
theorem ChIn.keep (h : ChIn w S B c m G Ap Al As np cp nl cl ns cs Ai ni ci inp C) (hk : ∀ b, S b → w'.heap[b]? = w.heap[b]?) (ho : w'.os = w.os) (ht : w'.tape = w.tape) (hp : w'.output = w.output) (hs : w.heap.size ≤ w'.heap.size) : ChIn w' S B c m G Ap Al As np cp nl cl ns cs Ai ni ci inp C := by
  have kc : ∀ (a : Addr), S a.block → w'.cell? a = w.cell? a := fun a q => World.cell?_of_block (hk a.block q)
  have hb : Below B w w' := ⟨ho, ht, hp, hs, fun k q => hk k (h.lo k q)⟩
  refine ⟨h.lo, h.cS, (kc ⟨c, 0, none⟩ h.cS).trans h.g0, (kc ⟨c, 1, none⟩ h.cS).trans h.g1, (kc ⟨c, 2, none⟩ h.cS).trans h.g2, (kc ⟨c, 3, none⟩ h.cS).trans h.g3, h.gi.below hb, (kc ⟨c, 6, none⟩ h.cS).trans h.c6, h.li, h.mi, h.ri.below hb, ?_, ?_, ?_, (kc ⟨c, 11, none⟩ h.cS).trans h.op⟩
  · obtain ⟨bn, nb, cb, e, e1, e2, e3, hS, hr⟩ := h.by_
    refine ⟨bn, nb, cb, (kc ⟨c, 7, none⟩ h.cS).trans e, e1, e2, e3, hS, fun a ha => ?_⟩
    obtain ⟨A', c', z, q1, q2, r⟩ := hr a ha
    exact ⟨A', c', (kc ⟨bn, a, none⟩ hS).trans z, q1, q2, r.keep hk⟩
  · obtain ⟨bi, cb, e, e2, e3, hS, hr⟩ := h.it
    refine ⟨bi, cb, (kc ⟨c, 8, none⟩ h.cS).trans e, e2, e3, hS, fun k hk' => ?_⟩
    obtain ⟨s, mk, z, q1, q2, q3, r⟩ := hr k hk'
    exact ⟨s, mk, (kc ⟨bi, k, none⟩ hS).trans z, q1, (kc ⟨s, 1, none⟩ q1).trans q2, q3, r.same (hk mk q3)⟩
  · obtain ⟨ms, ns, e, hS, hr⟩ := h.sp
    exact ⟨ms, ns, (kc ⟨c, 9, none⟩ h.cS).trans e, hS, hr.same (hk ms hS)⟩
theorem ChIn.kp {X : Nat → Prop} (h : ChIn w S B c m G Ap Al As np cp nl cl ns cs Ai ni ci inp C) (hk : Kp X w w') (hl : ∀ b, S b → b < w.heap.size) (hx : ∀ b, S b → ¬ X b) : ChIn w' S B c m G Ap Al As np cp nl cl ns cs Ai ni ci inp C :=
  h.keep (fun b q => hk.block b (hl b q) (hx b q)) hk.os hk.tape hk.output hk.size
theorem Opn.same {m : Nat} {O : List K3} (h : Opn m O w) (e : w'.heap[m]? = w.heap[m]?) : Opn m O w' := KMap.same h e
end
theorem zero_i64 (w : World) : (zeroValue 3).run Tryd.prog w = .ok zeroV w := rfl
section
variable {w : World} {b n : Nat} {l : List K3}
theorem ItM.look (h : ItM w b l) {x : K3} (hx : inK x) : ∃ v, (Instr.lookup 69 (.map (some b)) (kV x) true).run Tryd.prog w = .ok (.tuple #[v, .bool (decide (x ∈ l))]) w := by
  obtain ⟨n, f, h1, h2⟩ := h
  have := h1.look2 (t := 69) (e := 3) lawI3 (fun x => keyI3) Tryd.underlying69 (zero_i64 w) hx
  rw [h2 x hx] at this
  exact ⟨_, this⟩
theorem SpM.look (h : SpM w b n l) {x : K3} (hx : inK x) : (Instr.lookup 56 (.map (some b)) (kV x) false).run Tryd.prog w = .ok (.int .i64 (if x ∈ l then 1 else 0)) w := by
  have := KMap.look1 (t := 56) (e := 3) h lawS3 (fun x => keyS3) Tryd.underlying56 (zero_i64 w) hx
  rw [this]
  by_cases q : x ∈ l <;> simp [q, oneV, zeroV]
theorem Opn.put {m : Nat} {O : List K3} (h : Opn m O w) {x : K3} (hx : inK x) (hn : x ∉ O) (hO : O.length ≤ 1000000) :
    ∃ w', (Instr.mapUpdate 56 (.map (some m)) (kV x) (.int .i64 1)).run Tryd.prog w = .ok () w' ∧ Opn m (x :: O) w' ∧ w.grownBy w' (some m) := by
  obtain ⟨w', h1, h2, h3⟩ := KMap.put (t := 56) (e := 3) h lawS3 (fun x => keyS3) Tryd.underlying56 hx (v := oneV) g_one (by unfold maxLen; omega)
  refine ⟨w', h1, ?_, h3⟩
  simp only [if_neg hn, Option.isSome_none, Bool.false_eq_true, if_false] at h2
  refine KMap.congr h2 (fun y hy => ?_)
  by_cases e : y = x
  · subst e; simp
  · simp [e]
theorem Opn.del {m : Nat} {O : List K3} {x : K3} (h : Opn m (x :: O) w) (hx : inK x) (hn : x ∉ O) (ty : TypeId) :
    ∃ w', (Builtin.delete_ #[56, 46] ty #[.map (some m), kV x]).run Tryd.prog w = .ok (.tuple #[]) w' ∧ Opn m O w' ∧ w.grownBy w' (some m) := by
  obtain ⟨w', h1, h2, h3⟩ := KMap.del (t := 56) (e := 3) h lawS3 (fun x => keyS3) Tryd.underlying56 hx ty
  refine ⟨w', h1, ?_, h3⟩
  simp only [List.mem_cons, true_or, if_true, Option.isSome_some, List.length_cons, Nat.add_sub_cancel] at h2
  refine KMap.congr h2 (fun y hy => ?_)
  by_cases e : y = x
  · subst e; simp [hn]
  · simp [e]
end
end Go.Proofs.YtiklbannoinioaaDoor
