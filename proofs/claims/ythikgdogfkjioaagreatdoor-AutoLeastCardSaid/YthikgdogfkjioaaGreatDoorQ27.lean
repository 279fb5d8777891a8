/- Memory: maps from texts to numbers. · What can be come to from the first state, in the order it is come to. -/
import Derived.Test.YthikgdogfkjioaaGreatDoorQ26
import Derived.StringKeys
import Derived.Test.YthikgdogfkjioaaGreatDoorQ12
namespace Go.Proofs.YthikgdogfkjioaaGreatDoor
open Go.RowKit BigFrame Go.Maps Go.WideMaps
set_option linter.unusedVariables false
set_option linter.unusedSimpArgs false
set_option maxRecDepth 100000

theorem lawS : Keyed Tryz.prog 9 := string_keyed Tryz.underlying9
/-- Map b leads from texts to numbers, as f says; it has m of them. -/
def SMap (w : World) (b n m : Nat) (f : List UInt8 → Option Nat) : Prop :=
  ∃ D : DataW Unit, w.ownsMap Tryz.prog 9 (plainElem Tryz.prog 3) b n D ∧ Maps.size D = m ∧ ∀ x, Maps.has D (.string x) = (f x).isSome ∧ D.atKey (.string x) (.lit (.int .i64 0)) = .lit (.int .i64 (((f x).getD 0 : Nat) : Int))
section
variable {w w' : World} {b n m : Nat} {f : List UInt8 → Option Nat}
theorem SMap.lt (h : SMap w b n m f) : b < w.heap.size := by obtain ⟨D, hD, _⟩ := h; exact hD.lt
theorem SMap.kept (h : SMap w b n m f) {row : Option Nat} (hg : w.grownBy w' row) (hne : some b ≠ row) : SMap w' b n m f := by
  obtain ⟨D, hD, h2⟩ := h
  exact ⟨D, hD.kept hg hne, h2⟩
theorem SMap.ext (h : SMap w b n m f) (hb : Below w.heap.size w w') : SMap w' b n m f := h.kept (row := none) ⟨hb.os, hb.tape, hb.output, hb.size, fun k hk _ => hb.block k hk⟩ (by simp)
theorem SMap.set_ (h : SMap w b n m f) {a : Addr} (ha : b ≠ a.block) (u : Value) : SMap (w.setCell a u) b n m f := by
  obtain ⟨D, hD, h2⟩ := h
  exact ⟨D, hD.setCell ha u, h2⟩
theorem SMap.made (w : World) : SMap (w.alloc (.map #[] 0)) w.heap.size 0 0 (fun _ => none) :=
  ⟨.map [], World.ownsMap_made _ _ _ _, rfl, fun x => ⟨by simp [Maps.has], rfl⟩⟩
theorem SMap.len (h : SMap w b n m f) (ty : TypeId) : (Builtin.len_ #[61] ty #[.map (some b)]).run Tryz.prog w = .ok (.int .i64 (m : Int)) w := by
  obtain ⟨D, hD, h1, _⟩ := h
  have := hD.len (e := 3) Tryz.underlying61 ty
  rw [h1] at this
  exact this
theorem SMap.look2 (h : SMap w b n m f) {x : ByteArray} (hx : x.size ≤ maxLen) : (Instr.lookup 61 (.map (some b)) (.string x) true).run Tryz.prog w = .ok (.tuple #[.int .i64 (((f x.data.toList).getD 0 : Nat) : Int), .bool (f x.data.toList).isSome]) w := by
  obtain ⟨D, hD, _, h2⟩ := h
  obtain ⟨v, ps, hrun, hv⟩ := hD.look_ok (t := 61) (e := 3) lawS Tryz.underlying61 (z := .int .i64 0) (by rfl) (zd := .lit (.int .i64 0)) (zp := []) (plainElem_int Tryz.underlying3 (by decide)) (keyOf_string_mk Tryz.underlying9 hx)
  obtain ⟨e1, e2⟩ := h2 x.data.toList
  rw [e2] at hv
  have ev : v = .int .i64 (((f x.data.toList).getD 0 : Nat) : Int) := by
    obtain ⟨a, e3, e4, _⟩ := plainElem_int_inv Tryz.underlying3 hv
    simp only [Prod.mk.injEq] at e4
    have e5 := e4.1
    injection e5 with e5
    injection e5 with _ e5
    rw [e3, e5]
  rw [hrun, e1, ev]
/-- A new text. -/
theorem SMap.put (h : SMap w b n m f) {x : ByteArray} (hx : x.size ≤ maxLen) (hnew : f x.data.toList = none) {v : Nat} (hv : v ≤ 1000000) (hn : n < 1000000) :
    ∃ w', (Instr.mapUpdate 61 (.map (some b)) (.string x) (.int .i64 (v : Int))).run Tryz.prog w = .ok () w' ∧ SMap w' b (n + 1) (m + 1) (fun y => if y = x.data.toList then some v else f y) ∧ w.grownBy w' (some b) := by
  obtain ⟨D, hD, hm, h2⟩ := h
  obtain ⟨w', hrun, hD', hg⟩ := hD.update (t := 61) (e := 3) lawS Tryz.underlying61 (by unfold maxLen; omega) (keyOf_string_mk Tryz.underlying9 hx) (val := .int .i64 (v : Int)) (plainElem_int Tryz.underlying3 (wfI_nat hv))
  refine ⟨w', hrun, ⟨_, hD', ?_, fun y => ?_⟩, hg⟩
  · have h0 : Maps.has D (.string x.data.toList) = false := by rw [(h2 x.data.toList).1, hnew]; rfl
    rw [← hm]
    rw [Maps.size_put (hD.tidy lawS), h0]; rfl
  · simp only
    by_cases e : y = x.data.toList
    · subst e
      rw [if_pos rfl]
      exact ⟨by rw [has_put_same hD.isMap (by exact trivial)]; rfl, by rw [atKey_put_same hD.isMap (by exact trivial)]; rfl⟩
    · rw [if_neg e]
      exact ⟨by rw [has_put_other (fun q => e (by injection q))]; exact (h2 y).1, by rw [atKey_put_other (fun q => e (by injection q))]; exact (h2 y).2⟩
end
end Go.Proofs.YthikgdogfkjioaaGreatDoor
namespace Go.Proofs.YthikgdogfkjioaaGreatDoor
set_option linter.unusedVariables false
set_option linter.unusedSimpArgs false
set_option maxRecDepth 100000

def oAt (O : List Nat) (i : Nat) : Nat := O.getD i 0
theorem oAt_get {O : List Nat} {i : Nat} (h : i < O.length) : oAt O i = O[i] := by simp [oAt, h]
theorem oAt_snoc {O : List Nat} {s i : Nat} (h : i < O.length) : oAt (O ++ [s]) i = oAt O i := by
  rw [oAt_get h, oAt_get (by simp; omega), List.getElem_append_left h]
/-- States up to the i-th are walked through, of it the first c letters. -/
structure RcI (mv : Nat → Nat → Nat) (K n : Nat) (O : List Nat) (i c : Nat) : Prop where
  nd : O.Nodup
  pos : 0 < O.length
  zero : oAt O 0 = 0
  le : ∀ s ∈ O, s ≤ n
  cl : ∀ k, k < O.length → ∀ d, d < K → (k < i ∨ (k = i ∧ d < c)) → mv (oAt O k) d ∈ O
section
variable {mv : Nat → Nat → Nat} {K n : Nat} {O : List Nat} {i c : Nat}
theorem RcI.start : RcI mv K n [0] 0 0 := ⟨by simp, by simp, rfl, by simp, fun k hk d hd q => by omega⟩
theorem RcI.length (h : RcI mv K n O i c) : O.length ≤ n + 1 := by
  have := len_le_of_sub h.nd (b := List.range (n + 1)) (fun x hx => List.mem_range.2 (by have := h.le x hx; omega))
  rwa [List.length_range] at this
theorem RcI.seen (h : RcI mv K n O i c) (hm : mv (oAt O i) c ∈ O) : RcI mv K n O i (c + 1) :=
  ⟨h.nd, h.pos, h.zero, h.le, fun k hk d hd q => by
    by_cases e : k = i ∧ d = c
    · obtain ⟨rfl, rfl⟩ := e; exact hm
    · exact h.cl k hk d hd (by omega)⟩
theorem RcI.push (h : RcI mv K n O i c) (hi : i < O.length) (hm : mv (oAt O i) c ∉ O) (hle : mv (oAt O i) c ≤ n) : RcI mv K n (O ++ [mv (oAt O i) c]) i (c + 1) := by
  refine ⟨?_, by simp, by rw [oAt_snoc h.pos]; exact h.zero, fun s hs => ?_, fun k hk d hd q => ?_⟩
  · rw [List.nodup_append]
    refine ⟨h.nd, by simp, fun a ha b hb => ?_⟩
    rw [List.mem_singleton] at hb
    subst hb
    exact fun e => hm (e ▸ ha)
  · rcases List.mem_append.1 hs with q | q
    · exact h.le s q
    · rw [List.mem_singleton] at q; subst q; exact hle
  · have hk' : k < O.length := by omega
    rw [oAt_snoc hk']
    by_cases e : k = i ∧ d = c
    · obtain ⟨rfl, rfl⟩ := e; simp
    · exact List.mem_append_left _ (h.cl k hk' d hd (by omega))
theorem RcI.next (h : RcI mv K n O i K) : RcI mv K n O (i + 1) 0 :=
  ⟨h.nd, h.pos, h.zero, h.le, fun k hk d hd q => h.cl k hk d hd (by omega)⟩
theorem RcI.done (h : RcI mv K n O O.length 0) : ∀ i c, i < O.length → c < K → O.idxOf (mv (oAt O i) c) < O.length ∧ oAt O (O.idxOf (mv (oAt O i) c)) = mv (oAt O i) c := fun i c hi hc => by
  have hm := h.cl i hi c hc (.inl hi)
  have hl := List.idxOf_lt_length_iff.2 hm
  exact ⟨hl, by rw [oAt_get hl, List.getElem_idxOf hl]⟩
/-- The map from states to their places: a state that is there, one that is new. -/
theorem idx_snoc_old {s t : Nat} (h : s ∈ O) : (O ++ [t]).idxOf s = O.idxOf s := by rw [List.idxOf_append, if_pos h]
theorem idx_snoc_new {t : Nat} (h : t ∉ O) : (O ++ [t]).idxOf t = O.length := by rw [List.idxOf_append, if_neg h]; simp
theorem idx_oat (h : O.Nodup) (hi : i < O.length) : O.idxOf (oAt O i) = i := by
  rw [oAt_get hi]
  exact h.idxOf_getElem i hi
end
end Go.Proofs.YthikgdogfkjioaaGreatDoor
