/- Memory: maps from numbers to slices. · The sets of a state's moves, one more move. · Memory: a state's moves gathered by where they lead: a map from numbers to rows of ranges. -/
import Derived.Test.YtkcpfpofimkkiaaGreatDoorQ18
import Derived.Test.YtkcpfpofimkkiaaGreatDoorQ16
namespace Go.Proofs.YtkcpfpofimkkiaaGreatDoor
open Go.RowKit BigFrame Go.Maps
set_option linter.unusedVariables false
set_option linter.unusedSimpArgs false
set_option maxRecDepth 100000

/-- How an element that is a slice reads. -/
def vElem : Value → Option (DataW Unit × List MemPlace)
  | .slice none n c => some (.agg [.lit (.int .i64 n), .lit (.int .i64 c)], [])
  | .slice (some ⟨b, o, none⟩) n c => some (.agg [.lit (.int .i64 b), .lit (.int .i64 o), .lit (.int .i64 n), .lit (.int .i64 c)], [])
  | _ => none
theorem vElem_inj {u v : Value} {d : DataW Unit} {p q : List MemPlace} (hu : vElem u = some (d, p)) (hv : vElem v = some (d, q)) : u = v := by
  unfold vElem at hu hv
  split at hu <;> split at hv <;> first | (simp only [Option.some.injEq, Prod.mk.injEq, reduceCtorEq] at hu hv; done) | skip
  all_goals (simp only [Option.some.injEq, Prod.mk.injEq] at hu hv; obtain ⟨rfl, -⟩ := hu; obtain ⟨e, -⟩ := hv; simp at e)
  · obtain ⟨e1, e2⟩ := e
    rw [Int.ofNat.inj e1, Int.ofNat.inj e2]
  · obtain ⟨e1, e2, e3, e4⟩ := e
    rw [Int.ofNat.inj e1, Int.ofNat.inj e2, Int.ofNat.inj e3, Int.ofNat.inj e4]
def nilV : Value := .slice none 0 0
def VMap (w : World) (b n : Nat) (f : Int → Option Value) : Prop :=
  ∃ D : DataW Unit, w.ownsMap Tryz.prog 3 vElem b n D ∧ ∀ x, wfI x → Maps.has D (.int .i64 x) = (f x).isSome ∧ vElem ((f x).getD nilV) = some (D.atKey (.int .i64 x) (.agg [.lit (.int .i64 0), .lit (.int .i64 0)]), [])
section
variable {w w' : World} {b n : Nat} {f : Int → Option Value}
theorem VMap.lt (h : VMap w b n f) : b < w.heap.size := by obtain ⟨D, hD, _⟩ := h; exact hD.lt
theorem VMap.kept (h : VMap w b n f) {row : Option Nat} (hg : w.grownBy w' row) (hne : some b ≠ row) : VMap w' b n f := by
  obtain ⟨D, hD, h2⟩ := h
  exact ⟨D, hD.kept hg hne, h2⟩
theorem VMap.ext (h : VMap w b n f) (hb : Below w.heap.size w w') : VMap w' b n f := h.kept (row := none) ⟨hb.os, hb.tape, hb.output, hb.size, fun k hk _ => hb.block k hk⟩ (by simp)
theorem VMap.set_ (h : VMap w b n f) {a : Addr} (ha : b ≠ a.block) (u : Value) : VMap (w.setCell a u) b n f := by
  obtain ⟨D, hD, h2⟩ := h
  exact ⟨D, hD.setCell ha u, h2⟩
theorem VMap.made (w : World) : VMap (w.alloc (.map #[] 0)) w.heap.size 0 (fun _ => none) :=
  ⟨.map [], World.ownsMap_made _ _ _ _, fun x _ => ⟨by simp [Maps.has], rfl⟩⟩
theorem VMap.look2 (h : VMap w b n f) {x : Int} (hx : wfI x) : (Instr.lookup 65 (.map (some b)) (.int .i64 x) true).run Tryz.prog w = .ok (.tuple #[(f x).getD nilV, .bool (f x).isSome]) w := by
  obtain ⟨D, hD, h2⟩ := h
  obtain ⟨v, ps, hrun, hv⟩ := hD.look_ok (t := 65) (e := 36) lawI Tryz.underlying65 (z := nilV) (by rfl) (zd := .agg [.lit (.int .i64 0), .lit (.int .i64 0)]) (zp := []) rfl (keyI hx)
  obtain ⟨e1, e2⟩ := h2 x hx
  rw [hrun, e1, vElem_inj hv e2]
theorem VMap.look1 (h : VMap w b n f) {x : Int} (hx : wfI x) : (Instr.lookup 65 (.map (some b)) (.int .i64 x) false).run Tryz.prog w = .ok ((f x).getD nilV) w := by
  obtain ⟨D, hD, h2⟩ := h
  obtain ⟨v, ps, hrun, hv⟩ := hD.lookup (t := 65) (e := 36) lawI Tryz.underlying65 (z := nilV) (by rfl) (zd := .agg [.lit (.int .i64 0), .lit (.int .i64 0)]) (zp := []) rfl (keyI hx)
  rw [hrun, vElem_inj hv (h2 x hx).2]
theorem VMap.put (h : VMap w b n f) {x : Int} (hx : wfI x) {v : Value} {d : DataW Unit} (hv : vElem v = some (d, [])) (hn : n < 1000000) :
    ∃ w', (Instr.mapUpdate 65 (.map (some b)) (.int .i64 x) v).run Tryz.prog w = .ok () w' ∧ VMap w' b (n + 1) (fun y => if y = x then some v else f y) ∧ w.grownBy w' (some b) := by
  obtain ⟨D, hD, h2⟩ := h
  obtain ⟨w', hrun, hD', hg⟩ := hD.update (t := 65) (e := 36) lawI Tryz.underlying65 (by unfold maxLen; omega) (keyI hx) (val := v) hv
  refine ⟨w', hrun, ⟨_, hD', fun y hy => ?_⟩, hg⟩
  simp only
  by_cases e : y = x
  · subst e
    rw [if_pos rfl]
    exact ⟨by rw [has_put_same hD.isMap (by exact trivial)]; rfl, by rw [atKey_put_same hD.isMap (by exact trivial)]; exact hv⟩
  · rw [if_neg e]
    exact ⟨by rw [has_put_other (fun q => e (by injection q))]; exact (h2 y hy).1, by rw [atKey_put_other (fun q => e (by injection q))]; exact (h2 y hy).2⟩
end
end Go.Proofs.YtkcpfpofimkkiaaGreatDoor
namespace Go.Proofs.YtkcpfpofimkkiaaGreatDoor
set_option linter.unusedVariables false
set_option linter.unusedSimpArgs false

theorem toSet_snoc {ms : List Mv} {m : Mv} {t : Int} : toSet (ms ++ [m]) t = if m.2.2 = t then toSet ms t ++ [(m.1, m.2.1)] else toSet ms t := by
  unfold toSet
  rw [List.filter_append, List.map_append]
  by_cases e : m.2.2 = t
  · rw [if_pos e]; simp [e]
  · rw [if_neg e]; simp [e]
theorem tosOf_snoc {ms : List Mv} {m : Mv} : tosOf (ms ++ [m]) = if m.2.2 ∈ tosOf ms then tosOf ms else tosOf ms ++ [m.2.2] := by
  unfold tosOf
  rw [List.map_append, List.map_cons, List.map_nil, distinct_snoc]
  rfl
theorem mem_tosOf {ms : List Mv} {t : Int} : t ∈ tosOf ms ↔ ∃ m ∈ ms, m.2.2 = t := by
  unfold tosOf
  rw [mem_distinct, List.mem_map]
theorem toSet_none {ms : List Mv} {t : Int} (h : t ∉ tosOf ms) : toSet ms t = [] := by
  unfold toSet
  rw [List.filter_eq_nil_iff.2 ?_]
  · rfl
  · intro m hm q
    exact h (mem_tosOf.2 ⟨m, hm, by simpa using q⟩)
theorem toSet_len {ms : List Mv} {t : Int} : (toSet ms t).length ≤ ms.length := by
  unfold toSet
  rw [List.length_map]
  exact List.length_filter_le _ _
theorem setsP_take {l : List St} {k : Nat} {s : St} (h : l[k]? = some s) : setsP (l.take (k + 1)) = setsP (l.take k) ++ (tosOf s.2).map (toSet s.2) := by
  unfold setsP
  rw [List.take_add_one, h]
  simp [List.flatMap_append]
end Go.Proofs.YtkcpfpofimkkiaaGreatDoor
namespace Go.Proofs.YtkcpfpofimkkiaaGreatDoor
open Go.RowKit BigFrame Go.Maps
set_option linter.unusedVariables false
set_option linter.unusedSimpArgs false
set_option maxRecDepth 100000

theorem VMap.cells {w : World} {b n : Nat} {f : Int → Option Value} (h : VMap w b n f) {base : Nat} {e : TypeId} {sz k : Nat} {v : Value} {xs : List Value} (ho : w.ownsRow base e sz v k xs) : v.ownBlock ≠ some b := fun q => by
  obtain ⟨vs, hb⟩ := own_ty ho q
  obtain ⟨D, hD, _⟩ := h
  obtain ⟨es, clock, hm, _⟩ := hD
  unfold Blk at hb
  rw [hm] at hb
  cases hb
/-- The moves ms are gathered; L: the keys. -/
structure Ms (w W : World) (base bm n : Nat) (f : Int → Option Value) (vk : Value) (L : List Int) (ms : List Mv) : Prop where
  b : Below base w W
  le : base ≤ W.heap.size
  m : VMap W bm n f
  mb : base ≤ bm
  k : W.ownsRow base 3 1 vk L.length (iv L)
  fr : ∀ t, OwG W base ((f t).getD nilV) (toSet ms t)
  fs : ∀ t, (f t).isSome = true ↔ t ∈ tosOf ms
  ap : ∀ t t' q, t ≠ t' → ((f t).getD nilV).ownBlock = some q → ((f t').getD nilV).ownBlock ≠ some q
section
variable {w W W' : World} {base bm n : Nat} {f : Int → Option Value} {vk : Value} {L : List Int} {ms : List Mv}
theorem Ms.ext (h : Ms w W base bm n f vk L ms) (hb : Below W.heap.size W W') : Ms w W' base bm n f vk L ms :=
  ⟨h.b.trans (hb.mono h.le), Nat.le_trans h.le hb.size, h.m.ext hb, h.mb, own_ext h.k hb, fun t => own_ext (h.fr t) hb, h.fs, h.ap⟩
theorem Ms.new (w : World) : Ms w (w.alloc (.map #[] 0)) w.heap.size w.heap.size 0 (fun _ => none) (.slice none 0 0) [] [] :=
  ⟨(Below.refl _ _).alloc (Nat.le_refl _) _, by simp, VMap.made w, Nat.le_refl _, World.ownsRow_nil _ _ _ _, fun _ => OwG.nil _ _, fun t => by simp [tosOf, distinct], fun _ _ _ _ e => by cases e⟩
theorem vElem_own {w : World} {base : Nat} {e : TypeId} {sz k : Nat} {v : Value} {xs : List Value} (h : w.ownsRow base e sz v k xs) : ∃ d, vElem v = some (d, []) := by
  rcases h.2 with ⟨rfl, _⟩ | ⟨g, cap, cur, rfl, _⟩
  · exact ⟨_, rfl⟩
  · exact ⟨_, rfl⟩
theorem Ms.key (h : Ms w W base bm n f vk L ms) {vk' : Value} {x : Int} (hg : W.grownBy W' vk.ownBlock) (hr : W'.ownsRow base 3 1 vk' (L.length + 1) (iv L ++ [.int .i64 x])) : Ms w W' base bm n f vk' (L ++ [x]) ms := by
  refine ⟨h.b.grown hg h.le (fun q e => (h.k.lt q e).1), Nat.le_trans h.le hg.size, h.m.kept hg (fun e => h.m.cells h.k e.symm), h.mb, ?_, fun t => World.ownsRow.kept (h.fr t) hg (own_ne (h.fr t) h.k (by decide)), h.fs, h.ap⟩
  rw [List.length_append, show iv (L ++ [x]) = iv L ++ [.int .i64 x] by unfold iv; rw [List.map_append]; rfl]
  exact hr
/-- One move more: its range is appended to its target's row, the row laid back into the map. -/
theorem Ms.add (h : Ms w W base bm n f vk L ms) {mv : Mv} {v' : Value} {W2 : World} (hg : W.grownBy W' ((f mv.2.2).getD nilV).ownBlock) (hr : OwG W' base v' (toSet ms mv.2.2 ++ [(mv.1, mv.2.1)]))
    (hat : v'.ownBlock = ((f mv.2.2).getD nilV).ownBlock ∨ v'.ownBlock = some (W.heap.size + 1)) (hm : VMap W2 bm (n + 1) (fun y => if y = mv.2.2 then some v' else f y)) (hg2 : W'.grownBy W2 (some bm)) :
    Ms w W2 base bm (n + 1) (fun y => if y = mv.2.2 then some v' else f y) vk L (ms ++ [mv]) := by
  have hM : VMap W' bm n f := h.m.kept hg (fun e => h.m.cells (h.fr mv.2.2) e.symm)
  have hb1 : Below base w W' := h.b.grown hg h.le (fun q e => (World.ownsRow.lt (h.fr mv.2.2) q e).1)
  have hle1 := Nat.le_trans h.le hg.size
  have hK : W'.ownsRow base 3 1 vk L.length (iv L) := h.k.kept hg (own_ne h.k (h.fr mv.2.2) (by decide))
  have nm : ∀ {e : TypeId} {sz k : Nat} {v : Value} {xs : List Value}, W'.ownsRow base e sz v k xs → v.ownBlock = none ∨ v.ownBlock ≠ some bm := fun ho => .inr (hM.cells ho)
  have hF : ∀ t, t ≠ mv.2.2 → OwG W' base ((f t).getD nilV) (toSet ms t) := fun t ht => World.ownsRow.kept (h.fr t) hg (by
    cases q : ((f t).getD nilV).ownBlock with
    | none => exact .inl rfl
    | some g => exact .inr (fun e => h.ap t mv.2.2 g ht q e.symm))
  refine ⟨hb1.grown hg2 hle1 (fun q e => by cases e; exact h.mb), Nat.le_trans hle1 hg2.size, hm, h.mb, hK.kept hg2 (nm hK), fun t => ?_, fun t => ?_, fun t t' q ht e => ?_⟩
  · rw [toSet_snoc]
    by_cases e : t = mv.2.2
    · subst e
      rw [if_pos rfl, if_pos rfl]
      exact World.ownsRow.kept hr hg2 (nm hr)
    · rw [if_neg e, if_neg (fun z => e z.symm)]
      exact World.ownsRow.kept (hF t e) hg2 (nm (hF t e))
  · rw [mem_tosOf]
    by_cases e : t = mv.2.2
    · subst e
      rw [if_pos rfl]
      exact ⟨fun _ => ⟨mv, by simp, rfl⟩, fun _ => rfl⟩
    · rw [if_neg e, h.fs t, mem_tosOf]
      refine ⟨fun ⟨m, hm, q⟩ => ⟨m, by simp [hm], q⟩, fun ⟨m, hm, q⟩ => ?_⟩
      rcases List.mem_append.1 hm with z | z
      · exact ⟨m, z, q⟩
      · rw [List.mem_singleton] at z; subst z; exact absurd q.symm e
  · have old : ∀ t q, ((f t).getD nilV).ownBlock = some q → q < W.heap.size := fun t q e => (World.ownsRow.lt (h.fr t) q e).2
    intro e'
    by_cases z : t = mv.2.2
    · have z' : t' ≠ mv.2.2 := fun y => ht (by rw [z, y])
      rw [if_pos z] at e
      rw [if_neg z'] at e'
      simp only [Option.getD_some] at e
      rcases hat with y | y
      · exact h.ap t' mv.2.2 q z' e' (by rw [← y]; exact e)
      · have := old t' q e'
        rw [y] at e; cases e; omega
    · rw [if_neg z] at e
      by_cases z' : t' = mv.2.2
      · rw [if_pos z'] at e'
        simp only [Option.getD_some] at e'
        rcases hat with y | y
        · exact h.ap t mv.2.2 q z e (by rw [← y]; exact e')
        · have := old t q e
          rw [y] at e'; cases e'; omega
      · rw [if_neg z'] at e'
        exact h.ap t t' q ht e e'
end
end Go.Proofs.YtkcpfpofimkkiaaGreatDoor
