/- Memory: automata read, and made by append: moves, states. · Memory while a row of the least automaton is built: the order, the state, its moves, the states so far. -/
import Derived.Test.YthikgdogfkjioaaGreatDoorQ14
namespace Go.Proofs.YthikgdogfkjioaaGreatDoor
open Go.RowKit BigFrame
set_option linter.unusedVariables false
set_option linter.unusedSimpArgs false
set_option maxRecDepth 100000

/-- Moves as cells. -/
def mvc (l : List Mv) : List Value := l.flatMap fun m => [.int .i64 m.1, .int .i64 m.2.1, .int .i64 m.2.2]
theorem mvc_len (l : List Mv) : (mvc l).length = l.length * 3 := by
  induction l with
  | nil => rfl
  | cons r l ih => unfold mvc at *; rw [List.flatMap_cons, List.length_append, ih, List.length_cons]; simp; omega
theorem mvc_append (l m : List Mv) : mvc (l ++ m) = mvc l ++ mvc m := by unfold mvc; rw [List.flatMap_append]
theorem mvc_get : ∀ {l : List Mv} {k : Nat} {m : Mv}, l[k]? = some m → (mvc l)[k * 3]? = some (.int .i64 m.1) ∧ (mvc l)[k * 3 + 1]? = some (.int .i64 m.2.1) ∧ (mvc l)[k * 3 + 2]? = some (.int .i64 m.2.2)
  | [], k, m, h => by simp at h
  | r :: l, 0, m, h => by
    simp only [List.getElem?_cons_zero, Option.some.injEq] at h
    subst h
    exact ⟨rfl, rfl, rfl⟩
  | r :: l, k + 1, m, h => by
    obtain ⟨a, b, c⟩ := mvc_get (l := l) (k := k) (m := m) (by simpa using h)
    have e : mvc (r :: l) = .int .i64 r.1 :: .int .i64 r.2.1 :: .int .i64 r.2.2 :: mvc l := rfl
    rw [e, show (k + 1) * 3 = k * 3 + 1 + 1 + 1 by omega, show k * 3 + 1 + 1 + 1 + 1 = (k * 3 + 1) + 1 + 1 + 1 by omega, show k * 3 + 1 + 1 + 1 + 2 = (k * 3 + 2) + 1 + 1 + 1 by omega]
    simp only [List.getElem?_cons_succ]
    exact ⟨a, b, c⟩
theorem mvc_last (l : List Mv) (x y z t : Int) : (mvc (l ++ [(x, y, z)])).set (l.length * 3 + 1) (.int .i64 t) = mvc (l ++ [(x, t, z)]) := by
  rw [mvc_append, mvc_append, List.set_append_right _ _ (by rw [mvc_len]; omega), mvc_len, show l.length * 3 + 1 - l.length * 3 = 1 by omega]
  rfl
/-- A slice of moves. -/
def RdV (w : World) (B : Nat) (A : Option Addr) (l : List Mv) : Prop := Rd w B A (mvc l)
theorem RdV.at_ {w : World} {B : Nat} {A : Option Addr} {l : List Mv} (h : RdV w B A l) (hn : 0 < l.length) :
    ∃ b off, A = some ⟨b, off, none⟩ ∧ b < B ∧ ∀ (k : Nat) (m : Mv), l[k]? = some m → w.cell? ⟨b, off + k * 3, none⟩ = some (.int .i64 m.1) ∧ w.cell? ⟨b, off + k * 3 + 1, none⟩ = some (.int .i64 m.2.1) ∧ w.cell? ⟨b, off + k * 3 + 2, none⟩ = some (.int .i64 m.2.2) := by
  obtain ⟨b, off, e, hb, hc⟩ := h (by intro e; have := mvc_len l; rw [e] at this; simp at this; omega)
  refine ⟨b, off, e, hb, fun k m hk => ?_⟩
  obtain ⟨h1, h2, h3⟩ := mvc_get hk
  exact ⟨hc _ _ h1, by rw [Nat.add_assoc]; exact hc _ _ h2, by rw [Nat.add_assoc]; exact hc _ _ h3⟩
/-- States. -/
def RdA (w : World) (B : Nat) (A : Option Addr) (l : List St) : Prop :=
  0 < l.length → ∃ b off, A = some ⟨b, off, none⟩ ∧ b < B ∧ ∀ (k : Nat) (s : St), l[k]? = some s → w.cell? ⟨b, off + k * 2, none⟩ = some (.int .i64 s.1) ∧ ∃ A' c', w.cell? ⟨b, off + k * 2 + 1, none⟩ = some (.slice A' s.2.length c') ∧ s.2.length ≤ c' ∧ c' ≤ maxLen ∧ RdV w B A' s.2
theorem RdA.below {w w' : World} {B : Nat} {A : Option Addr} {l : List St} (h : RdA w B A l) (hb : Below B w w') : RdA w' B A l := fun h0 => by
  obtain ⟨b, off, e, hlt, hc⟩ := h h0
  refine ⟨b, off, e, hlt, fun k s hs => ?_⟩
  obtain ⟨z0, A', c', z, q1, q2, r⟩ := hc k s hs
  exact ⟨(hb.cell (p := ⟨b, off + k * 2, none⟩) hlt).trans z0, A', c', (hb.cell (p := ⟨b, off + k * 2 + 1, none⟩) hlt).trans z, q1, q2, Rd.below r hb⟩
theorem RdA.more {w : World} {B B' : Nat} {A : Option Addr} {l : List St} (h : RdA w B A l) (hB : B ≤ B') : RdA w B' A l := fun h0 => by
  obtain ⟨b, off, e, hlt, hc⟩ := h h0
  refine ⟨b, off, e, by omega, fun k s hs => ?_⟩
  obtain ⟨z0, A', c', z, q1, q2, r⟩ := hc k s hs
  exact ⟨z0, A', c', z, q1, q2, Rd.more r hB⟩

theorem elMvs : ElTy Tryz.prog 28 32 3 24 (.agg #[.int .i64 0, .int .i64 0, .int .i64 0]) := ⟨Tryz.underlying28, by kernel_rfl, rfl, by decide⟩
theorem elSts : ElTy Tryz.prog 22 30 2 32 (.agg #[.int .i64 0, .slice none 0 0]) := ⟨Tryz.underlying22, by kernel_rfl, rfl, by decide⟩
/-- An own row of moves. -/
def OwV (w : World) (base : Nat) (v : Value) (l : List Mv) : Prop := w.ownsRow base 32 3 v l.length (mvc l)
theorem OwV.nil (w : World) (base : Nat) : OwV w base (.slice none 0 0) [] := World.ownsRow_nil _ _ _ _
theorem OwV.snoc {w : World} {base : Nat} {v : Value} {l : List Mv} {x y z : Int} (h : w.ownsRow base 32 3 v (l.length + 1) (mvc l ++ [.int .i64 x, .int .i64 y, .int .i64 z])) : OwV w base v (l ++ [(x, y, z)]) := by
  unfold OwV
  rw [mvc_append, List.length_append]; exact h
theorem OwV.rd {w : World} {base : Nat} {v : Value} {l : List Mv} (h : OwV w base v l) : ∃ A c, v = .slice A l.length c ∧ l.length ≤ c ∧ c ≤ maxLen ∧ RdV w w.heap.size A l := own_form h
/-- Its last move, made longer. -/
theorem OwV.last {w : World} {base : Nat} {v : Value} {l0 : List Mv} {x y z : Int} (h : OwV w base v (l0 ++ [(x, y, z)])) :
    ∃ g cap, v = .slice (some ⟨g, 0, none⟩) (l0.length + 1) cap ∧ l0.length + 1 ≤ cap ∧ cap ≤ maxLen ∧ base ≤ g ∧ g < w.heap.size ∧ v.ownBlock = some g ∧ (∀ i, w.frozen? ⟨g, i, none⟩ = false) ∧ w.cell? ⟨g, l0.length * 3 + 1, none⟩ = some (.int .i64 y) ∧ w.cell? ⟨g, l0.length * 3 + 2, none⟩ = some (.int .i64 z) ∧
      ∀ t, OwV (w.setCell ⟨g, l0.length * 3 + 1, none⟩ (.int .i64 t)) base v (l0 ++ [(x, t, z)]) := by
  unfold OwV at h
  have hll : (l0 ++ [(x, y, z)]).length = l0.length + 1 := by simp
  obtain ⟨_, r1, r2⟩ := mvc_get (l := l0 ++ [(x, y, z)]) (k := l0.length) (m := (x, y, z)) (by simp)
  rcases h.2 with ⟨_, q⟩ | ⟨g, cap, cur, rfl, hb, hg, hn, hc, hs, ht⟩
  · rw [hll] at q; cases q
  · rw [hll] at hn
    have hlen := mvc_len (l0 ++ [(x, y, z)])
    rw [← ht] at r1 r2
    rw [List.getElem?_take] at r1 r2
    have q1 : cur.toList[l0.length * 3 + 1]? = some (.int .i64 y) := by
      split at r1
      · exact r1
      · cases r1
    have q2 : cur.toList[l0.length * 3 + 2]? = some (.int .i64 z) := by
      split at r2
      · exact r2
      · cases r2
    refine ⟨g, cap, by rw [hll], hn, hc, hb, (Array.getElem?_eq_some_iff.1 hg).1, rfl, fun i => by simp [World.frozen?, hg], ?_, ?_, fun t => ?_⟩
    · rw [cell_of_row w g _ cur 32 (0, 0) hg]; simpa using q1
    · rw [cell_of_row w g _ cur 32 (0, 0) hg]; simpa using q2
    · unfold OwV
      have hl2 : (l0 ++ [(x, t, z)]).length = l0.length + 1 := by simp
      rw [hl2, ← mvc_last l0 x y z t]
      have hls : ((mvc (l0 ++ [(x, y, z)])).set (l0.length * 3 + 1) (.int .i64 t)).length = (l0.length + 1) * 3 := by rw [List.length_set, hlen, hll]
      refine ⟨hls, .inr ⟨g, cap, cur.set! (l0.length * 3 + 1) (.int .i64 t), by rw [hll], hb, ?_, hn, hc, by simp [hs], ?_⟩⟩
      · simp [World.setCell, Array.getElem?_modify, hg]
      · rw [Array.set!, Array.toList_setIfInBounds]
        rw [List.take_set]
        rw [hll] at ht
        rw [ht]
/-- States as cells: their rules, their slices of moves. -/
def stc : List St → List Value → List Value
  | s :: l, u :: vs => .int .i64 s.1 :: u :: stc l vs
  | _, _ => []
theorem stc_len : ∀ (l : List St) (vs : List Value), vs.length = l.length → (stc l vs).length = l.length * 2
  | [], [], _ => rfl
  | [], _ :: _, h => by simp at h
  | _ :: _, [], h => by simp at h
  | s :: l, u :: vs, h => by
    have := stc_len l vs (by simpa using h)
    unfold stc
    simp only [List.length_cons, this]; omega
theorem stc_append : ∀ (l : List St) (vs : List Value) (s : St) (u : Value), vs.length = l.length → stc (l ++ [s]) (vs ++ [u]) = stc l vs ++ [.int .i64 s.1, u]
  | [], [], s, u, _ => rfl
  | [], _ :: _, s, u, h => by simp at h
  | _ :: _, [], s, u, h => by simp at h
  | a :: l, b :: vs, s, u, h => by
    have := stc_append l vs s u (by simpa using h)
    simp only [List.cons_append, stc, this]
theorem stc_get : ∀ {l : List St} {vs : List Value} {k : Nat} {s : St} {u : Value}, l[k]? = some s → vs[k]? = some u → (stc l vs)[k * 2]? = some (.int .i64 s.1) ∧ (stc l vs)[k * 2 + 1]? = some u
  | [], _, k, s, u, h, _ => by simp at h
  | _ :: _, [], k, s, u, _, h => by simp at h
  | a :: l, b :: vs, 0, s, u, h1, h2 => by
    simp only [List.getElem?_cons_zero, Option.some.injEq] at h1 h2
    subst h1 h2
    exact ⟨rfl, rfl⟩
  | a :: l, b :: vs, k + 1, s, u, h1, h2 => by
    obtain ⟨x, y⟩ := stc_get (l := l) (vs := vs) (k := k) (s := s) (u := u) (by simpa using h1) (by simpa using h2)
    have e : stc (a :: l) (b :: vs) = .int .i64 a.1 :: b :: stc l vs := rfl
    rw [e, show (k + 1) * 2 = k * 2 + 1 + 1 by omega, show k * 2 + 1 + 1 + 1 = (k * 2 + 1) + 1 + 1 from rfl]
    simp only [List.getElem?_cons_succ]
    exact ⟨x, y⟩
/-- An own row of states, each with an own row of moves. -/
structure OwS (w : World) (base : Nat) (v : Value) (vs : List Value) (l : List St) : Prop where
  ln : vs.length = l.length
  row : w.ownsRow base 30 2 v l.length (stc l vs)
  cl : ∀ (k : Nat) (u : Value) (s : St), vs[k]? = some u → l[k]? = some s → OwV w base u s.2
theorem OwS.nil (w : World) (base : Nat) : OwS w base (.slice none 0 0) [] [] := ⟨rfl, World.ownsRow_nil _ _ _ _, fun k u s h => (by simp at h)⟩
theorem OwS.ext {w w' : World} {base : Nat} {v : Value} {vs : List Value} {l : List St} (h : OwS w base v vs l) (hb : Below w.heap.size w w') : OwS w' base v vs l :=
  ⟨h.ln, own_ext h.row hb, fun k u s hk hs => own_ext (h.cl k u s hk hs) hb⟩
theorem OwS.lt {w : World} {base : Nat} {v : Value} {vs : List Value} {l : List St} (h : OwS w base v vs l) (k : Nat) (u : Value) (g : Nat) (hk : vs[k]? = some u) (hg : u.ownBlock = some g) : g < w.heap.size := by
  have hkl : k < l.length := by rw [← h.ln]; exact (List.getElem?_eq_some_iff.1 hk).1
  exact ((h.cl k u _ hk (List.getElem?_eq_getElem hkl)).lt g hg).2
/-- Another row grown. -/
theorem OwS.grown {w w' : World} {base : Nat} {v : Value} {vs : List Value} {l : List St} {b : Option Nat} (h : OwS w base v vs l) (hg : w.grownBy w' b) (hv : v.ownBlock = none ∨ v.ownBlock ≠ b) (hr : ∀ (k : Nat) (u : Value), vs[k]? = some u → u.ownBlock = none ∨ u.ownBlock ≠ b) : OwS w' base v vs l :=
  ⟨h.ln, h.row.kept hg hv, fun k u s hk hs => (h.cl k u s hk hs).kept hg (hr k u hk)⟩
/-- A cell elsewhere set. -/
theorem OwS.far {w : World} {base : Nat} {v : Value} {vs : List Value} {l : List St} {p : Addr} {x : Value} (h : OwS w base v vs l) (hv : v.ownBlock ≠ some p.block) (hr : ∀ (k : Nat) (u : Value), vs[k]? = some u → u.ownBlock ≠ some p.block) : OwS (w.setCell p x) base v vs l :=
  h.grown (b := some p.block) ⟨rfl, rfl, rfl, by simp [World.setCell], fun k hk hne => Below.heap_setCell w _ x k (fun e => hne (by rw [e]))⟩ (.inr hv) (fun k u hk => .inr (hr k u hk))
theorem OwS.push {w w' : World} {base : Nat} {v v' u : Value} {vs : List Value} {l : List St} {s : St} (h : OwS w base v vs l) (hg : w.grownBy w' v.ownBlock) (hu : OwV w base u s.2)
    (hr : w'.ownsRow base 30 2 v' (l.length + 1) (stc l vs ++ [.int .i64 s.1, u])) : OwS w' base v' (vs ++ [u]) (l ++ [s]) := by
  have hk : ∀ {t : Value} {ms : List Mv}, OwV w base t ms → OwV w' base t ms := fun {t ms} ht => World.ownsRow.kept ht hg (own_ne ht h.row (by decide))
  refine ⟨by simp [h.ln], by rw [List.length_append, stc_append _ _ _ _ h.ln]; exact hr, fun k t s' hk2 hs2 => ?_⟩
  by_cases q : k < vs.length
  · rw [List.getElem?_append_left q] at hk2
    rw [List.getElem?_append_left (by rw [← h.ln]; exact q)] at hs2
    exact hk (h.cl k t s' hk2 hs2)
  · rw [List.getElem?_append_right (by omega)] at hk2
    rw [List.getElem?_append_right (by rw [← h.ln]; omega)] at hs2
    by_cases q2 : k = vs.length
    · subst q2
      rw [h.ln] at hs2
      simp at hk2 hs2
      subst hk2 hs2
      exact hk hu
    · rw [List.getElem?_eq_none (by simp; omega)] at hk2; cases hk2
theorem OwS.rd {w : World} {base : Nat} {v : Value} {vs : List Value} {l : List St} (h : OwS w base v vs l) : ∃ A c, v = .slice A l.length c ∧ l.length ≤ c ∧ c ≤ maxLen ∧ RdA w w.heap.size A l := by
  rcases h.row.2 with ⟨rfl, q⟩ | ⟨g, cap, cur, rfl, hb, hg, hn, hc, hs, ht⟩
  · exact ⟨none, 0, by rw [q], by omega, Nat.zero_le _, fun h0 => by omega⟩
  · refine ⟨_, cap, rfl, hn, hc, fun h0 => ⟨g, 0, rfl, (Array.getElem?_eq_some_iff.1 hg).1, fun k s hks => ?_⟩⟩
    have hkl := (List.getElem?_eq_some_iff.1 hks).1
    have hkv : k < vs.length := by rw [h.ln]; exact hkl
    have hu : vs[k]? = some vs[k] := List.getElem?_eq_getElem hkv
    obtain ⟨A, c, e, q1, q2, q3⟩ := (h.cl k _ _ hu hks).rd
    rw [e] at hu
    obtain ⟨r1, r2⟩ := stc_get hks hu
    have tr : ∀ (j : Nat) (x : Value), (stc l vs)[j]? = some x → w.cell? ⟨g, j, none⟩ = some x := fun j x hj => by
      rw [cell_of_row w g j cur 30 (0, 0) hg, ← Array.getElem?_toList]
      rw [← ht, List.getElem?_take] at hj
      split at hj
      · exact hj
      · cases hj
    exact ⟨by rw [Nat.zero_add]; exact tr _ _ r1, A, c, by rw [Nat.zero_add]; exact tr _ _ r2, q1, q2, q3⟩
theorem OwS.rdS {w : World} {base : Nat} {A : Option Addr} {n c : Nat} {vs : List Value} {l : List St} (h : OwS w base (.slice A n c) vs l) : RdA w w.heap.size A l := by
  obtain ⟨A', c', e, _, _, h2⟩ := h.rd
  injection e with a b c
  rw [a]; exact h2
theorem OwS.base {w : World} {base base' : Nat} {v : Value} {vs : List Value} {l : List St} (h : OwS w base v vs l) (hb : base' ≤ base) : OwS w base' v vs l :=
  ⟨h.ln, ownsRow_base h.row hb, fun k u s hk hs => ownsRow_base (h.cl k u s hk hs) hb⟩
end Go.Proofs.YthikgdogfkjioaaGreatDoor
namespace Go.Proofs.YthikgdogfkjioaaGreatDoor
open Go.RowKit BigFrame
set_option linter.unusedVariables false
set_option linter.unusedSimpArgs false
set_option maxRecDepth 100000

def iN (l : List Nat) : List Int := l.map fun (x : Nat) => (x : Int)
theorem iN_len (l : List Nat) : (iN l).length = l.length := List.length_map _
theorem iN_nth {l : List Nat} {k : Nat} (h : k < l.length) : nth (iN l) k = ((l[k] : Nat) : Int) := by unfold iN nth; simp [List.getD, h]
theorem iN_snoc (l : List Nat) (t : Nat) : iv (iN (l ++ [t])) = iv (iN l) ++ [.int .i64 (t : Int)] := by unfold iN iv; simp
/-- Memory in a round. -/
structure Inn (w5 w : World) (ga gs z : Nat) (r : Int) (va : Value) (vs : List Value) (acc : List St) (ov vm : Value) (od : List Nat) (ms : List Mv) : Prop where
  kp : Kp (fun q => q = ga) w5 w
  va_ : Blk w ga 24 [va]
  ov_ : w.ownsRow z 3 1 ov od.length (iv (iN od))
  os : OwS w z va vs acc
  gs_ : Blk w gs 30 [.int .i64 r, vm]
  om : OwV w (gs + 1) vm ms
  c1 : ga < z
  c2 : z ≤ gs
  c3 : w5.heap.size = z
  ltv : ∀ (k : Nat) (u : Value) (q : Nat), vs[k]? = some u → u.ownBlock = some q → q < gs
  lta : ∀ q, va.ownBlock = some q → z ≤ q ∧ q < gs
section
variable {w5 w w' : World} {ga gs z : Nat} {r : Int} {va : Value} {vs : List Value} {acc : List St} {ov vm : Value} {od : List Nat} {ms : List Mv}
theorem Inn.ext (h : Inn w5 w ga gs z r va vs acc ov vm od ms) (hb : Below w.heap.size w w') : Inn w5 w' ga gs z r va vs acc ov vm od ms :=
  ⟨h.kp.trans (Kp.of hb), h.va_.below' hb, own_ext h.ov_ hb, h.os.ext hb, h.gs_.below' hb, own_ext h.om hb, h.c1, h.c2, h.c3, h.ltv, h.lta⟩
theorem Inn.drewN (h : Inn w5 w ga gs z r va vs acc ov vm od ms) (n : Nat) : Inn w5 (w.drewN n) ga gs z r va vs acc ov vm od ms := h.ext ⟨rfl, rfl, rfl, Nat.le_refl _, fun _ _ => rfl⟩
theorem Inn.drew (h : Inn w5 w ga gs z r va vs acc ov vm od ms) : Inn w5 w.drew ga gs z r va vs acc ov vm od ms := h.ext ⟨rfl, rfl, rfl, Nat.le_refl _, fun _ _ => rfl⟩
theorem Inn.base (h : Inn w5 w ga gs z r va vs acc ov vm od ms) : z ≤ w.heap.size := by have := h.kp.size; rw [h.c3] at this; exact this
/-- One more in the order. -/
theorem Inn.pushO (h : Inn w5 w ga gs z r va vs acc ov vm od ms) {ov' : Value} {t : Nat} (hg : w.grownBy w' ov.ownBlock) (hr : w'.ownsRow z 3 1 ov' (od.length + 1) (iv (iN od) ++ [.int .i64 (t : Int)])) : Inn w5 w' ga gs z r va vs acc ov' vm (od ++ [t]) ms := by
  have hb : ∀ {g : Nat} {e : TypeId} {xs : List Value}, Blk w g e xs → e ≠ 3 → Blk w' g e xs := fun {g e xs} hq hne => hq.grown hg (fun q => by
    obtain ⟨us, hu⟩ := own_ty h.ov_ q.symm
    exact hne (Blk.type_eq hq hu))
  refine ⟨h.kp.grown hg (fun q e => .inl (by rw [h.c3]; exact (h.ov_.lt q e).1)), hb h.va_ (by decide), by rw [List.length_append, iN_snoc]; exact hr, h.os.grown hg (own_ne h.os.row h.ov_ (by decide)) (fun k u hk => ?_), hb h.gs_ (by decide), World.ownsRow.kept h.om hg (own_ne h.om h.ov_ (by decide)), h.c1, h.c2, h.c3, h.ltv, h.lta⟩
  have hkl : k < acc.length := by rw [← h.os.ln]; exact (List.getElem?_eq_some_iff.1 hk).1
  exact own_ne (h.os.cl k u _ hk (List.getElem?_eq_getElem hkl)) h.ov_ (by decide)
/-- One more move, ahead of the store. -/
theorem Inn.pushV_cells (h : Inn w5 w ga gs z r va vs acc ov vm od ms) (hg : w.grownBy w' vm.ownBlock) : w'.cell? ⟨gs, 1, none⟩ = some vm ∧ w'.frozen? ⟨gs, 1, none⟩ = false := by
  have hk := h.gs_.grown hg (fun e => by have := (World.ownsRow.lt h.om gs e.symm).1; omega)
  exact ⟨hk.cell (i := 1) rfl, hk.frozen 1⟩
theorem far_own {base : Nat} {e : TypeId} {sz n : Nat} {v : Value} {xs : List Value} {p : Addr} {x : Value} (h : w.ownsRow base e sz v n xs) (hp : v.ownBlock ≠ some p.block) : (w.setCell p x).ownsRow base e sz v n xs :=
  World.ownsRow.kept h (row := some p.block) ⟨rfl, rfl, rfl, by simp [World.setCell], fun k hk hne => Below.heap_setCell w _ x k (fun e => hne (by rw [e]))⟩ (.inr hp)
theorem Inn.pushV (h : Inn w5 w ga gs z r va vs acc ov vm od ms) {vm' : Value} {x y t : Int} (hg : w.grownBy w' vm.ownBlock) (hr : w'.ownsRow (gs + 1) 32 3 vm' (ms.length + 1) (mvc ms ++ [.int .i64 x, .int .i64 y, .int .i64 t])) :
    Inn w5 (w'.setCell ⟨gs, 1, none⟩ vm') ga gs z r va vs acc ov vm' od (ms ++ [(x, y, t)]) := by
  have hlo : ∀ q, vm.ownBlock = some q → gs + 1 ≤ q := fun q e => (World.ownsRow.lt h.om q e).1
  have hk := h.gs_.grown hg (fun e => by have := hlo gs e.symm; omega)
  have hva := h.va_.grown hg (fun e => by have := hlo ga e.symm; have := h.c1; have := h.c2; omega)
  have hov := World.ownsRow.kept h.ov_ hg (own_ne h.ov_ h.om (by decide))
  have hos := h.os.grown hg (own_ne h.os.row h.om (by decide)) (fun k u hu => by
    cases hob : u.ownBlock with
    | none => exact .inl rfl
    | some q => exact .inr fun e => by have := h.ltv k u q hu hob; have := hlo q e.symm; omega)
  have hne : ov.ownBlock ≠ some gs := fun e => by
    obtain ⟨us, hu⟩ := own_ty hov e
    exact absurd (Blk.type_eq hk hu) (by decide)
  have c1 := h.c1
  have c2 := h.c2
  refine ⟨(h.kp.grown hg (fun q e => .inl (by rw [h.c3]; have := hlo q e; omega))).set_ (p := ⟨gs, 1, none⟩) (.inl (by rw [h.c3]; exact h.c2)) _, hva.far (p := ⟨gs, 1, none⟩) (show ga ≠ gs by omega) _, far_own hov hne, hos.far (p := ⟨gs, 1, none⟩) (fun e => by have := (h.lta _ e).2; simp at this) (fun k u hu e => by have := h.ltv k u _ hu e; simp at this), hk.set_ 1 vm', OwV.snoc (own_set (p := ⟨gs, 1, none⟩) hr (show gs < gs + 1 by omega)), h.c1, h.c2, h.c3, h.ltv, h.lta⟩
/-- The last move, made longer. -/
theorem Inn.last {l0 : List Mv} {x y t : Int} (h : Inn w5 w ga gs z r va vs acc ov vm od (l0 ++ [(x, y, t)])) :
    ∃ g cap, vm = .slice (some ⟨g, 0, none⟩) (l0.length + 1) cap ∧ l0.length + 1 ≤ cap ∧ cap ≤ maxLen ∧ gs + 1 ≤ g ∧ g < w.heap.size ∧ (∀ i, w.frozen? ⟨g, i, none⟩ = false) ∧ w.cell? ⟨g, l0.length * 3 + 1, none⟩ = some (.int .i64 y) ∧ w.cell? ⟨g, l0.length * 3 + 2, none⟩ = some (.int .i64 t) ∧
      ∀ u, Inn w5 (w.setCell ⟨g, l0.length * 3 + 1, none⟩ (.int .i64 u)) ga gs z r va vs acc ov vm od (l0 ++ [(x, u, t)]) := by
  obtain ⟨g, cap, e1, e2, e3, e4, e5, e6, e7, e8, e9, e10⟩ := OwV.last h.om
  have c1 := h.c1
  have c2 := h.c2
  refine ⟨g, cap, e1, e2, e3, e4, e5, e7, e8, e9, fun u => ?_⟩
  obtain ⟨us, hu⟩ := own_ty h.om e6
  have hne : ov.ownBlock ≠ some g := fun e => by
    obtain ⟨us2, hu2⟩ := own_ty h.ov_ e
    exact absurd (Blk.type_eq hu hu2) (by decide)
  exact ⟨h.kp.set_ (p := ⟨g, l0.length * 3 + 1, none⟩) (.inl (by rw [h.c3]; show z ≤ g; omega)) _, h.va_.far (p := ⟨g, l0.length * 3 + 1, none⟩) (show ga ≠ g by omega) _, far_own h.ov_ hne, h.os.far (p := ⟨g, l0.length * 3 + 1, none⟩) (fun e => by have := (h.lta _ e).2; simp at this; omega) (fun k u hu e => by have := h.ltv k u _ hu e; simp at this; omega), h.gs_.far (p := ⟨g, l0.length * 3 + 1, none⟩) (show gs ≠ g by omega) _, e10 u, h.c1, h.c2, h.c3, h.ltv, h.lta⟩
theorem Inn.setV {l0 : List Mv} {x y t : Int} {g n cap : Nat} (h : Inn w5 w ga gs z r va vs acc ov vm od (l0 ++ [(x, y, t)])) (hv : vm = .slice (some ⟨g, 0, none⟩) n cap) (u : Int) :
    Inn w5 (w.setCell ⟨g, l0.length * 3 + 1, none⟩ (.int .i64 u)) ga gs z r va vs acc ov vm od (l0 ++ [(x, u, t)]) := by
  obtain ⟨g', cap', e1, _, _, _, _, _, _, _, e9⟩ := h.last
  rw [hv] at e1
  have hg : g = g' := by
    injection e1 with a b c
    injection a with a
    injection a
  rw [hg]; exact e9 u
theorem Inn.lastC {l0 : List Mv} {x y t : Int} {g n cap : Nat} (h : Inn w5 w ga gs z r va vs acc ov vm od (l0 ++ [(x, y, t)])) (hv : vm = .slice (some ⟨g, 0, none⟩) n cap) :
    (∀ i, w.frozen? ⟨g, i, none⟩ = false) ∧ w.cell? ⟨g, l0.length * 3 + 1, none⟩ = some (.int .i64 y) ∧ w.cell? ⟨g, l0.length * 3 + 2, none⟩ = some (.int .i64 t) ∧ g < w.heap.size := by
  obtain ⟨g', cap', e1, _, _, _, e5, e6, e7, e8, _⟩ := h.last
  rw [hv] at e1
  have hg : g = g' := by
    injection e1 with a b c
    injection a with a
    injection a
  rw [hg]; exact ⟨e6, e7, e8, e5⟩
/-- The row done: one state more. -/
theorem Inn.pushS_cells (h : Inn w5 w ga gs z r va vs acc ov vm od ms) (hg : w.grownBy w' va.ownBlock) : w'.cell? ⟨ga, 0, none⟩ = some va ∧ w'.frozen? ⟨ga, 0, none⟩ = false := by
  have c1 := h.c1
  have hk := h.va_.grown hg (fun e => by have := (h.lta ga e.symm).1; omega)
  exact ⟨hk.cell (i := 0) rfl, hk.frozen 0⟩
theorem Inn.pushS (h : Inn w5 w ga gs z r va vs acc ov vm od ms) {va' : Value} (hg : w.grownBy w' va.ownBlock) (hr : w'.ownsRow z 30 2 va' (acc.length + 1) (stc acc vs ++ [.int .i64 r, vm])) :
    Kp (fun q => q = ga) w5 (w'.setCell ⟨ga, 0, none⟩ va') ∧ Blk (w'.setCell ⟨ga, 0, none⟩ va') ga 24 [va'] ∧ (w'.setCell ⟨ga, 0, none⟩ va').ownsRow z 3 1 ov od.length (iv (iN od)) ∧ OwS (w'.setCell ⟨ga, 0, none⟩ va') z va' (vs ++ [vm]) (acc ++ [(r, ms)]) := by
  have c1 := h.c1
  have hk := h.va_.grown hg (fun e => by have := (h.lta ga e.symm).1; omega)
  have hos := h.os.push (s := (r, ms)) hg (ownsRow_base h.om (by have := h.c2; omega)) hr
  have hov := World.ownsRow.kept h.ov_ hg (own_ne h.ov_ h.os.row (by decide))
  refine ⟨(h.kp.grown hg (fun q e => .inl (by rw [h.c3]; exact (h.lta q e).1))).set_ (p := ⟨ga, 0, none⟩) (.inr rfl) _, hk.set_ 0 va', far_own hov (fun e => by have := (hov.lt _ e).1; simp at this; omega), hos.far (p := ⟨ga, 0, none⟩) (fun e => by have := (hos.row.lt _ e).1; simp at this; omega) (fun k u hu e => ?_)⟩
  have hkl : k < (acc ++ [(r, ms)]).length := by rw [← hos.ln]; exact (List.getElem?_eq_some_iff.1 hu).1
  have := (World.ownsRow.lt (hos.cl k u _ hu (List.getElem?_eq_getElem hkl)) _ e).1
  simp at this; omega
end
end Go.Proofs.YthikgdogfkjioaaGreatDoor
