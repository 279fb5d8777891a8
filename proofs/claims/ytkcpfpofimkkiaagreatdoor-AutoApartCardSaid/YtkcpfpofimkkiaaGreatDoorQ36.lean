/- Memory for the program's search: the order of pairs, and the map of where they were come from. · slices.Reverse of an own row of integers. -/
import Derived.Test.YtkcpfpofimkkiaaGreatDoorQ35
import Derived.Test.YtkcpfpofimkkiaaGreatDoorQ28
import Derived.Laws.StructEq
import Derived.Test.YtkcpfpofimkkiaaGreatDoorQ1
import Derived.Test.YtkcpfpofimkkiaaGreatDoorQ13
import Derived.Shelf.Slices.Reverse
namespace Go.Proofs.YtkcpfpofimkkiaaGreatDoor
open Go.RowKit BigFrame Go.Maps
set_option linter.unusedVariables false
set_option linter.unusedSimpArgs false
set_option maxRecDepth 100000

theorem elTwo : ElTy Tryz.prog 72 68 2 16 (.agg #[.int .i64 0, .int .i64 0]) := ⟨Tryz.underlying72, by kernel_rfl, rfl, by decide⟩
theorem QMap.cells {w : World} {b n : Nat} {f : Nat × Nat → Option Fr} (h : QMap w b n f) {base : Nat} {e : TypeId} {sz k : Nat} {v : Value} {xs : List Value} (ho : w.ownsRow base e sz v k xs) : v.ownBlock ≠ some b := fun q => by
  obtain ⟨vs, hb⟩ := own_ty ho q
  obtain ⟨D, hD, _⟩ := h
  obtain ⟨es, clock, hm, _⟩ := hD
  unfold Blk at hb
  rw [hm] at hb
  cases hb
theorem QMap.blk {w : World} {b n g : Nat} {e : TypeId} {vs : List Value} {f : Nat × Nat → Option Fr} (h : QMap w b n f) (hb : Blk w g e vs) : g ≠ b := by
  rintro rfl
  obtain ⟨D, hD, _⟩ := h
  obtain ⟨es, clock, hm, _⟩ := hD
  unfold Blk at hb
  rw [hm] at hb
  cases hb
/-- Pairs as cells. -/
def pc (T : List Nd) : List Value := T.flatMap fun n => [.int .i64 (n.1.1 : Int), .int .i64 (n.1.2 : Int)]
theorem pc_len (T : List Nd) : (pc T).length = T.length * 2 := by
  induction T with
  | nil => rfl
  | cons r l ih => unfold pc at *; rw [List.flatMap_cons, List.length_append, ih, List.length_cons]; simp; omega
theorem pc_snoc (T : List Nd) (n : Nd) : pc (T ++ [n]) = pc T ++ [.int .i64 (n.1.1 : Int), .int .i64 (n.1.2 : Int)] := by unfold pc; rw [List.flatMap_append]; simp
theorem pc_get : ∀ {T : List Nd} {k : Nat} {n : Nd}, T[k]? = some n → (pc T)[k * 2]? = some (.int .i64 (n.1.1 : Int)) ∧ (pc T)[k * 2 + 1]? = some (.int .i64 (n.1.2 : Int))
  | [], k, n, h => by simp at h
  | r :: l, 0, n, h => by
    simp at h; subst h
    exact ⟨rfl, rfl⟩
  | r :: l, k + 1, n, h => by
    obtain ⟨a, b⟩ := pc_get (T := l) (k := k) (n := n) (by simpa using h)
    have e : pc (r :: l) = .int .i64 (r.1.1 : Int) :: .int .i64 (r.1.2 : Int) :: pc l := rfl
    rw [e, show (k + 1) * 2 = k * 2 + 1 + 1 by omega, show k * 2 + 1 + 1 + 1 = (k * 2 + 1) + 1 + 1 from rfl]
    simp only [List.getElem?_cons_succ]
    exact ⟨a, b⟩
/-- The order and the map behind the world w. -/
structure Sq (w W : World) (base bm : Nat) (vo : Value) (T : List Nd) (sn : Nat × Nat → Option Fr) : Prop where
  b : Below base w W
  o : W.ownsRow base 68 2 vo T.length (pc T)
  m : QMap W bm T.length sn
  mb : base ≤ bm
  le : base ≤ W.heap.size
section
variable {w W W' W2 : World} {base bm : Nat} {vo vo' : Value} {T : List Nd} {sn : Nat × Nat → Option Fr}
theorem Sq.ext (h : Sq w W base bm vo T sn) (hb : Below W.heap.size W W') : Sq w W' base bm vo T sn :=
  ⟨h.b.trans (hb.mono h.le), own_ext h.o hb, h.m.ext hb, h.mb, Nat.le_trans h.le hb.size⟩
/-- The map has one more, the row not yet. -/
theorem Sq.push (h : Sq w W base bm vo T sn) {n : Nd} {o : Fr} (hm : QMap W' bm (T.length + 1) (fun y => if y = n.1 then some o else sn y)) (hg : W.grownBy W' (some bm)) :
    W'.ownsRow base 68 2 vo T.length (pc T) ∧ base ≤ W'.heap.size ∧ ∀ W2 vo', W'.grownBy W2 vo.ownBlock → W2.ownsRow base 68 2 vo' (T.length + 1) (pc T ++ [.int .i64 (n.1.1 : Int), .int .i64 (n.1.2 : Int)]) → Sq w W2 base bm vo' (T ++ [n]) (fun y => if y = n.1 then some o else sn y) := by
  have ho : W'.ownsRow base 68 2 vo T.length (pc T) := h.o.kept hg (.inr (fun e => h.m.cells h.o e))
  have hle := Nat.le_trans h.le hg.size
  refine ⟨ho, hle, fun W2 vo' hg2 hr => ⟨(h.b.grown hg h.le (fun q e => by cases e; exact h.mb)).grown hg2 hle (fun q e => (ho.lt q e).1), ?_, ?_, h.mb, Nat.le_trans hle hg2.size⟩⟩
  · rw [List.length_append, pc_snoc]; exact hr
  · rw [List.length_append]
    exact hm.kept hg2 (fun e => hm.cells ho e.symm)
/-- The order's cells. -/
theorem Sq.at_ (h : Sq w W base bm vo T sn) (h0 : 0 < T.length) : ∃ b c, vo = .slice (some ⟨b, 0, none⟩) T.length c ∧ T.length ≤ c ∧ c ≤ maxLen ∧ base ≤ b ∧ b < W.heap.size ∧ ∀ k n, T[k]? = some n → W.cell? ⟨b, k * 2, none⟩ = some (.int .i64 (n.1.1 : Int)) ∧ W.cell? ⟨b, k * 2 + 1, none⟩ = some (.int .i64 (n.1.2 : Int)) := by
  rcases h.o.2 with ⟨rfl, q⟩ | ⟨g, cap, cur, rfl, hb, hg, hn, hc, hs, ht⟩
  · omega
  · refine ⟨g, cap, rfl, hn, hc, hb, (Array.getElem?_eq_some_iff.1 hg).1, fun k n hk => ?_⟩
    have hcell : ∀ {j : Nat} {x : Value}, (pc T)[j]? = some x → W.cell? ⟨g, j, none⟩ = some x := fun {j x} hx => by
      rw [← ht, List.getElem?_take] at hx
      split at hx
      · rw [cell_of_row W g j cur 68 (0, 0) hg, ← Array.getElem?_toList]; exact hx
      · cases hx
    obtain ⟨r1, r2⟩ := pc_get hk
    exact ⟨hcell r1, hcell r2⟩
end
theorem fld1 (a b c : Value) (w : World) : (Instr.field 70 (.agg #[a, b, c]) 1).run Tryz.prog w = .ok c w := by
  simp [Instr.field, asAgg, part, Tryz.isAgg3, Tryz.sizeOf3]
theorem fld0 (a b c : Value) (w : World) : (Instr.field 70 (.agg #[a, b, c]) 0).run Tryz.prog w = .ok (.agg #[a, b]) w := by
  simp [Instr.field, asAgg, part, Tryz.isAgg68, Tryz.sizeOf68]
end Go.Proofs.YtkcpfpofimkkiaaGreatDoor
namespace Go.Proofs.YtkcpfpofimkkiaaGreatDoor
open Go.RowKit BigFrame Go.Sort
set_option linter.unusedVariables false
set_option linter.unusedSimpArgs false
set_option maxRecDepth 100000

theorem rev_own {base : Nat} {v : Value} {l : List Int} {w : World} (h : w.ownsRow base 3 1 v l.length (iv l)) (hn : l.length ≤ 1000000) :
    ∃ A c, v = .slice A l.length c ∧ Calls Tryz.prog 31 #[.slice A l.length c] w fun e w' => e = .returned (.tuple #[]) ∧ RdI w' w'.heap.size A l.reverse ∧ Below base w w' := by
  rcases h.2 with ⟨rfl, q⟩ | ⟨g, cap, cur, rfl, hb, hg, hnc, hcm, hs, ht⟩
  · have hl : l = [] := List.length_eq_zero_iff.1 (by omega)
    subst hl
    refine ⟨none, 0, rfl, ?_⟩
    have hc := Any.slices_Reverse_int_empty y_lays112 none 0 w
    change Calls Tryz.prog 31 _ _ _ at hc
    refine hc.mono ?_
    rintro e w' ⟨rfl, rfl⟩
    exact ⟨rfl, Rd.nil _ _ _, Below.refl _ _⟩
  · refine ⟨some ⟨g, 0, none⟩, cap, rfl, ?_⟩
    have hgs : g < w.heap.size := (Array.getElem?_eq_some_iff.1 hg).1
    have hH : Holds (Value.int .i64) w g 0 l.toArray := fun j hj => by
      have hj2 : j < l.length := by simpa using hj
      refine ⟨?_, by simp [World.frozen?, hg]⟩
      have hv : (iv l)[j]? = some (.int .i64 l[j]) := by unfold iv; rw [List.getElem?_map, List.getElem?_eq_getElem hj2]; rfl
      rw [cell_of_row w g (0 + j) cur 3 (0, 0) hg, Nat.zero_add, ← Array.getElem?_toList]
      rw [← ht, List.getElem?_take] at hv
      split at hv
      · rw [hv]; simp [hj2]
      · cases hv
    have hc := Any.slices_Reverse_int y_lays112 g 0 cap l w hH (by omega)
    change Calls Tryz.prog 31 _ _ _ at hc
    refine hc.mono ?_
    rintro e w' ⟨rfl, n, rfl⟩
    have hsz : (putRow (Value.int .i64) (Sort.ahead w n) g 0 l.reverse.toArray).heap.size = w.heap.size := by simp [putRow, mapBlock, Sort.ahead]
    refine ⟨rfl, fun hne => ⟨g, 0, rfl, by rw [hsz]; exact hgs, fun j u hu => ?_⟩, ⟨rfl, rfl, rfl, by rw [hsz]; exact Nat.le_refl _, fun k hk => ?_⟩⟩
    · have hj : j < l.reverse.length := by
        rcases Nat.lt_or_ge j l.reverse.length with h0 | h0
        · exact h0
        · rw [List.getElem?_eq_none (by rw [List.length_map]; exact h0)] at hu; cases hu
      have h1 := cell?_putRow (Value.int .i64) (Sort.ahead w n) g 0 l.toArray l.reverse.toArray (holds_ahead _ w n g 0 _ hH) (by simp) j (by simpa using hj)
      rw [h1]
      rw [List.getElem?_map, List.getElem?_eq_getElem hj] at hu
      rw [← hu]
      have h2 : j < l.length := by simpa using hj
      simp [h2]
    · have hne : g ≠ k := by omega
      simp [putRow, mapBlock, Sort.ahead, Array.getElem?_modify, hne]
end Go.Proofs.YtkcpfpofimkkiaaGreatDoor
