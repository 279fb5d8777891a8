/- Memory while auto.thin builds a row: the order, the places, the state, its moves, the states so far. Plain: what a piece adds. · What is alive: found backwards from the states of a rule. -/
import Derived.Test.YthikgdogfkjioaaGreatDoorQ20
import Derived.Test.YthikgdogfkjioaaGreatDoorQ21
import Derived.Test.YthikgdogfkjioaaGreatDoorQ36
import Derived.Test.YthikgdogfkjioaaGreatDoorQ12
namespace Go.Proofs.YthikgdogfkjioaaGreatDoor
open Go.RowKit BigFrame
set_option linter.unusedVariables false
set_option linter.unusedSimpArgs false
set_option maxRecDepth 100000

def thE (al : Nat → Bool) (C : List (List Rg)) (mv : Nat → Nat → Nat) (ru : Nat → Int) : Env Nat := ⟨al, fun a b => decide (a = b), fun k p => mv k (clsOf C p), ru⟩
section
variable {al : Nat → Bool} {C : List (List Rg)} {mv : Nat → Nat → Nat} {ru : Nat → Int} {s t : Nat} {od : List Nat} {ms : List Mv} {x y : Int}
theorem th_idx : idxO (thE al C mv ru).same od t = od.idxOf t := by
  unfold idxO List.idxOf
  congr 1
theorem th_lt : idxO (thE al C mv ru).same od t < od.length ↔ t ∈ od := by rw [th_idx]; exact List.idxOf_lt_length_iff
theorem th_old (ht : mv s (clsOf C x) = t) (h : al t = true) (hm : t ∈ od) : stepPc (thE al C mv ru) s (od, ms) (x, y) = (od, joinM ms x y (od.idxOf t)) := by
  have h1 : (thE al C mv ru).tg s x = t := ht
  have h2 : (thE al C mv ru).alive t = true := h
  unfold stepPc
  simp only [h1, h2, if_true]
  rw [if_pos (th_lt.2 hm), th_idx]
theorem th_new (ht : mv s (clsOf C x) = t) (h : al t = true) (hm : t ∉ od) : stepPc (thE al C mv ru) s (od, ms) (x, y) = (od ++ [t], joinM ms x y od.length) := by
  have h1 : (thE al C mv ru).tg s x = t := ht
  have h2 : (thE al C mv ru).alive t = true := h
  unfold stepPc
  simp only [h1, h2, if_true]
  rw [if_neg (fun q => hm (th_lt.1 q)), th_idx, List.idxOf_eq_length hm]
theorem th_skip (h : al (mv s (clsOf C x)) = false) : stepPc (thE al C mv ru) s (od, ms) (x, y) = (od, ms) := by
  have h2 : (thE al C mv ru).alive ((thE al C mv ru).tg s x) = false := h
  unfold stepPc
  simp [h2]
end
/-- Memory in a round. -/
structure In2 (w5 w : World) (ga gs bm n : Nat) (r : Int) (va : Value) (vs : List Value) (acc : List St) (ov vm : Value) (od : List Nat) (ms : List Mv) : Prop where
  b : Below w5.heap.size w5 w
  va_ : Blk w ga 24 [va]
  ov_ : w.ownsRow w5.heap.size 3 1 ov od.length (nv od)
  os : OwS w w5.heap.size va vs acc
  gs_ : Blk w gs 30 [.int .i64 r, vm]
  om : OwV w (gs + 1) vm ms
  m : IMap w bm n (idxI od)
  c1 : w5.heap.size ≤ ga
  c2 : w5.heap.size ≤ gs
  c3 : w5.heap.size ≤ bm
  ltv : ∀ (k : Nat) (u : Value) (q : Nat), vs[k]? = some u → u.ownBlock = some q → q < gs
  lta : ∀ q, va.ownBlock = some q → q < gs
section
variable {w5 w w' w2 : World} {ga gs bm n : Nat} {r : Int} {va : Value} {vs : List Value} {acc : List St} {ov vm : Value} {od : List Nat} {ms : List Mv}
theorem In2.ext (h : In2 w5 w ga gs bm n r va vs acc ov vm od ms) (hb : Below w.heap.size w w') : In2 w5 w' ga gs bm n r va vs acc ov vm od ms :=
  ⟨h.b.trans (hb.mono h.b.size), h.va_.below' hb, own_ext h.ov_ hb, h.os.ext hb, h.gs_.below' hb, own_ext h.om hb, h.m.ext hb, h.c1, h.c2, h.c3, h.ltv, h.lta⟩
theorem In2.drewN (h : In2 w5 w ga gs bm n r va vs acc ov vm od ms) (k : Nat) : In2 w5 (w.drewN k) ga gs bm n r va vs acc ov vm od ms := h.ext ⟨rfl, rfl, rfl, Nat.le_refl _, fun _ _ => rfl⟩
theorem In2.drew (h : In2 w5 w ga gs bm n r va vs acc ov vm od ms) : In2 w5 w.drew ga gs bm n r va vs acc ov vm od ms := h.ext ⟨rfl, rfl, rfl, Nat.le_refl _, fun _ _ => rfl⟩
theorem In2.base (h : In2 w5 w ga gs bm n r va vs acc ov vm od ms) : w5.heap.size ≤ w.heap.size := h.b.size
theorem OwS.keptM {w : World} {base bm n : Nat} {f : Int → Option Nat} {v : Value} {vs : List Value} {l : List St} (h : OwS w base v vs l) (hm : IMap w bm n f) (hg : w.grownBy w' (some bm)) : OwS w' base v vs l :=
  h.grown hg (.inr (fun e => hm.cells h.row e)) (fun k u hk => .inr (fun e => by
    have hkl : k < l.length := by rw [← h.ln]; exact (List.getElem?_eq_some_iff.1 hk).1
    exact hm.cells (h.cl k u _ hk (List.getElem?_eq_getElem hkl)) e))
/-- One more in the order: first its place in the map. -/
theorem In2.putM (h : In2 w5 w ga gs bm n r va vs acc ov vm od ms) {t : Nat} (ht : t ∉ od) (hm : IMap w' bm (n + 1) (fun y => if y = (t : Int) then some od.length else idxI od y)) (hg : w.grownBy w' (some bm)) :
    w'.ownsRow w5.heap.size 3 1 ov od.length (nv od) ∧ w5.heap.size ≤ w'.heap.size ∧ ∀ w2 ov', w'.grownBy w2 ov.ownBlock → w2.ownsRow w5.heap.size 3 1 ov' (od.length + 1) (nv od ++ [.int .i64 (t : Int)]) → In2 w5 w2 ga gs bm (n + 1) r va vs acc ov' vm (od ++ [t]) ms := by
  have keep : ∀ {base : Nat} {e : TypeId} {sz k : Nat} {v : Value} {xs : List Value}, w.ownsRow base e sz v k xs → w'.ownsRow base e sz v k xs := fun ho => World.ownsRow.kept ho hg (.inr (fun e => h.m.cells ho e))
  have kb : ∀ {g : Nat} {e : TypeId} {xs : List Value}, Blk w g e xs → Blk w' g e xs := fun hb => hb.grown hg (fun e => h.m.blk hb (by cases e; rfl))
  have hov := keep h.ov_
  have hle := Nat.le_trans h.b.size hg.size
  refine ⟨hov, hle, fun w2 ov' hg2 hr => ?_⟩
  have kb2 : ∀ {g : Nat} {e : TypeId} {xs : List Value}, Blk w' g e xs → e ≠ 3 → Blk w2 g e xs := fun hb hne => hb.grown hg2 (fun e => blk_own_ne hb hov hne e.symm)
  have hos := h.os.keptM h.m hg
  refine ⟨(h.b.grown hg h.b.size (fun q e => by cases e; exact h.c3)).grown hg2 hle (fun q e => (hov.lt q e).1), kb2 (kb h.va_) (by decide), ?_, hos.grown hg2 (own_ne hos.row hov (by decide)) (fun k u hk => ?_), kb2 (kb h.gs_) (by decide), World.ownsRow.kept (keep h.om) hg2 (own_ne (keep h.om) hov (by decide)), (hm.kept hg2 (fun e => hm.cells hov e.symm)).congr (fun x _ => idxI_new ht), h.c1, h.c2, h.c3, h.ltv, h.lta⟩
  · rw [List.length_append, show nv (od ++ [t]) = nv od ++ [.int .i64 (t : Int)] by unfold nv; rw [List.map_append]; rfl]
    exact hr
  · have hkl : k < acc.length := by rw [← hos.ln]; exact (List.getElem?_eq_some_iff.1 hk).1
    exact own_ne (hos.cl k u _ hk (List.getElem?_eq_getElem hkl)) hov (by decide)
/-- One more move, ahead of the store. -/
theorem In2.pushV_cells (h : In2 w5 w ga gs bm n r va vs acc ov vm od ms) (hg : w.grownBy w' vm.ownBlock) : w'.cell? ⟨gs, 1, none⟩ = some vm ∧ w'.frozen? ⟨gs, 1, none⟩ = false := by
  have hk := h.gs_.grown hg (fun e => by have := (World.ownsRow.lt h.om gs e.symm).1; omega)
  exact ⟨hk.cell (i := 1) rfl, hk.frozen 1⟩
theorem IMap.far {w : World} {b n : Nat} {f : Int → Option Nat} (h : IMap w b n f) {p : Addr} (hp : p.block ≠ b) (x : Value) : IMap (w.setCell p x) b n f := h.set_ (a := p) (Ne.symm hp) x
theorem In2.pushV (h : In2 w5 w ga gs bm n r va vs acc ov vm od ms) {vm' : Value} {x y t : Int} (hg : w.grownBy w' vm.ownBlock) (hr : w'.ownsRow (gs + 1) 32 3 vm' (ms.length + 1) (mvc ms ++ [.int .i64 x, .int .i64 y, .int .i64 t])) :
    In2 w5 (w'.setCell ⟨gs, 1, none⟩ vm') ga gs bm n r va vs acc ov vm' od (ms ++ [(x, y, t)]) := by
  have hlo : ∀ q, vm.ownBlock = some q → gs + 1 ≤ q := fun q e => (World.ownsRow.lt h.om q e).1
  have c2 := h.c2
  have hk := h.gs_.grown hg (fun e => by have := hlo gs e.symm; omega)
  have hva := h.va_.grown hg (fun e => blk_own_ne h.va_ h.om (by decide) e.symm)
  have hov := World.ownsRow.kept h.ov_ hg (own_ne h.ov_ h.om (by decide))
  have hos := h.os.grown hg (own_ne h.os.row h.om (by decide)) (fun k u hu => by
    cases hob : u.ownBlock with
    | none => exact .inl rfl
    | some q => exact .inr fun e => by have := h.ltv k u q hu hob; have := hlo q e.symm; omega)
  have hm := h.m.kept hg (fun e => h.m.cells h.om e.symm)
  have hgv : gs ≠ ga := fun e => by
    have h1 := hk
    rw [e] at h1
    exact absurd (Blk.type_eq h1 hva) (by decide)
  exact ⟨(h.b.grown hg h.b.size (fun q e => by have := hlo q e; omega)).setCell (p := ⟨gs, 1, none⟩) h.c2 _, hva.far (p := ⟨gs, 1, none⟩) (Ne.symm hgv) _, far_own hov (blk_own_ne hk hov (by decide)), hos.far (p := ⟨gs, 1, none⟩) (fun e => by have := h.lta _ e; simp at this) (fun k u hu e => by have := h.ltv k u _ hu e; simp at this), hk.set_ 1 vm', OwV.snoc (own_set (p := ⟨gs, 1, none⟩) hr (show gs < gs + 1 by omega)), hm.far (hm.blk hk) _, h.c1, h.c2, h.c3, h.ltv, h.lta⟩
/-- The last move, made longer. -/
theorem In2.last {l0 : List Mv} {x y t : Int} (h : In2 w5 w ga gs bm n r va vs acc ov vm od (l0 ++ [(x, y, t)])) :
    ∃ g cap, vm = .slice (some ⟨g, 0, none⟩) (l0.length + 1) cap ∧ l0.length + 1 ≤ cap ∧ cap ≤ maxLen ∧ g < w.heap.size ∧ (∀ i, w.frozen? ⟨g, i, none⟩ = false) ∧ w.cell? ⟨g, l0.length * 3 + 1, none⟩ = some (.int .i64 y) ∧ w.cell? ⟨g, l0.length * 3 + 2, none⟩ = some (.int .i64 t) ∧
      ∀ u, In2 w5 (w.setCell ⟨g, l0.length * 3 + 1, none⟩ (.int .i64 u)) ga gs bm n r va vs acc ov vm od (l0 ++ [(x, u, t)]) := by
  obtain ⟨g, cap, e1, e2, e3, e4, e5, e6, e7, e8, e9, e10⟩ := OwV.last h.om
  have c2 := h.c2
  refine ⟨g, cap, e1, e2, e3, e5, e7, e8, e9, fun u => ?_⟩
  obtain ⟨us, hu⟩ := own_ty h.om e6
  have hne : ov.ownBlock ≠ some g := blk_own_ne hu h.ov_ (by decide)
  have hga : ga ≠ g := fun e => by
    have h1 := h.va_
    rw [e] at h1
    exact absurd (Blk.type_eq h1 hu) (by decide)
  have hgm : g ≠ bm := h.m.blk hu
  exact ⟨h.b.setCell (p := ⟨g, l0.length * 3 + 1, none⟩) (by show w5.heap.size ≤ g; omega) _, h.va_.far (p := ⟨g, l0.length * 3 + 1, none⟩) hga _, far_own h.ov_ hne, h.os.far (p := ⟨g, l0.length * 3 + 1, none⟩) (fun e => by have := h.lta _ e; simp at this; omega) (fun k u hu e => by have := h.ltv k u _ hu e; simp at this; omega), h.gs_.far (p := ⟨g, l0.length * 3 + 1, none⟩) (show gs ≠ g by omega) _, e10 u, h.m.far (p := ⟨g, l0.length * 3 + 1, none⟩) hgm _, h.c1, h.c2, h.c3, h.ltv, h.lta⟩
/-- The row done: one state more. -/
theorem In2.pushS_cells (h : In2 w5 w ga gs bm n r va vs acc ov vm od ms) (hg : w.grownBy w' va.ownBlock) : w'.cell? ⟨ga, 0, none⟩ = some va ∧ w'.frozen? ⟨ga, 0, none⟩ = false := by
  have hk := h.va_.grown hg (fun e => blk_own_ne h.va_ h.os.row (by decide) e.symm)
  exact ⟨hk.cell (i := 0) rfl, hk.frozen 0⟩
theorem In2.pushS (h : In2 w5 w ga gs bm n r va vs acc ov vm od ms) {va' : Value} (hg : w.grownBy w' va.ownBlock) (hr : w'.ownsRow w5.heap.size 30 2 va' (acc.length + 1) (stc acc vs ++ [.int .i64 r, vm])) :
    Below w5.heap.size w5 (w'.setCell ⟨ga, 0, none⟩ va') ∧ Blk (w'.setCell ⟨ga, 0, none⟩ va') ga 24 [va'] ∧ (w'.setCell ⟨ga, 0, none⟩ va').ownsRow w5.heap.size 3 1 ov od.length (nv od) ∧ OwS (w'.setCell ⟨ga, 0, none⟩ va') w5.heap.size va' (vs ++ [vm]) (acc ++ [(r, ms)]) ∧ IMap (w'.setCell ⟨ga, 0, none⟩ va') bm n (idxI od) := by
  have hk := h.va_.grown hg (fun e => blk_own_ne h.va_ h.os.row (by decide) e.symm)
  have hos := h.os.push (s := (r, ms)) hg (ownsRow_base h.om (by have := h.c2; omega)) hr
  have hov := World.ownsRow.kept h.ov_ hg (own_ne h.ov_ h.os.row (by decide))
  have hm := h.m.kept hg (fun e => h.m.cells h.os.row e.symm)
  refine ⟨(h.b.grown hg h.b.size (fun q e => (h.os.row.lt q e).1)).setCell (p := ⟨ga, 0, none⟩) h.c1 _, hk.set_ 0 va', far_own hov (blk_own_ne hk hov (by decide)), hos.far (p := ⟨ga, 0, none⟩) (blk_own_ne hk hos.row (by decide)) (fun k u hu e => ?_), hm.far (hm.blk hk) _⟩
  have hkl : k < (acc ++ [(r, ms)]).length := by rw [← hos.ln]; exact (List.getElem?_eq_some_iff.1 hu).1
  exact blk_own_ne hk (hos.cl k u _ hu (List.getElem?_eq_getElem hkl)) (by decide) e
end
end Go.Proofs.YthikgdogfkjioaaGreatDoor
namespace Go.Proofs.YthikgdogfkjioaaGreatDoor
set_option linter.unusedVariables false
set_option linter.unusedSimpArgs false
set_option maxRecDepth 100000

def bAt (A : List Bool) (s : Nat) : Bool := A.getD s false
theorem bAt_set {A : List Bool} {s t : Nat} {b : Bool} (h : s < A.length) : bAt (A.set s b) t = if s = t then b else bAt A t := by
  unfold bAt
  rw [List.getD_eq_getElem?_getD, List.getD_eq_getElem?_getD, List.getElem?_set]
  by_cases e : s = t
  · subst e; simp [h]
  · simp [e]
theorem count_set : ∀ {A : List Bool} {s : Nat}, s < A.length → bAt A s = false → (A.set s true).count false + 1 = A.count false
  | [], s, h, _ => by simp at h
  | b :: A, 0, h, e => by
    have : b = false := e
    subst this
    simp
  | b :: A, s + 1, h, e => by
    have := count_set (A := A) (s := s) (by simpa using h) (by unfold bAt at *; simpa using e)
    rw [List.set_cons_succ, List.count_cons, List.count_cons]
    omega
def nAt (L : List Nat) (i : Nat) : Nat := L.getD i 0
theorem nAt_mem {L : List Nat} {i : Nat} (h : i < L.length) : nAt L i ∈ L := by
  have : nAt L i = L[i] := by simp [nAt, h]
  rw [this]; exact List.getElem_mem h
theorem mem_nAt {L : List Nat} {x : Nat} (h : x ∈ L) : ∃ i, i < L.length ∧ nAt L i = x := by
  obtain ⟨i, hi, e⟩ := List.getElem_of_mem h
  exact ⟨i, hi, by rw [← e]; simp [nAt, hi]⟩
/-- The rows back: from a state to those that lead to it. -/
structure BkI (mv : Nat → Nat → Nat) (K N : Nat) (bk : Nat → List Nat) (i c : Nat) : Prop where
  fr : ∀ t, t < N → ∀ s ∈ bk t, s < N ∧ ∃ d, d < K ∧ mv s d = t
  on : ∀ s, s < N → ∀ d, d < K → (s < i ∨ (s = i ∧ d < c)) → s ∈ bk (mv s d)
/-- What is alive so far: A; T is still to be walked back from; of state x the first j have been. -/
structure LvI (rule : Nat → Int) (mv : Nat → Nat → Nat) (K N : Nat) (bk : Nat → List Nat) (M : Nat) (A : List Bool) (T : List Nat) (x j : Nat) : Prop where
  len : A.length = N
  ts : ∀ t ∈ T, t < N
  snd : ∀ s, s < N → bAt A s = true → Live rule mv (· < K) s
  rl : ∀ s, s < N → 0 ≤ rule s → bAt A s = true
  cl : ∀ t, t < N → bAt A t = true → t ∈ T ∨ (t = x ∧ ∀ i, i < j → i < (bk t).length → bAt A (nAt (bk t) i) = true) ∨ ∀ s ∈ bk t, bAt A s = true
  sz : T.length + A.count false = M
section
variable {rule : Nat → Int} {mv : Nat → Nat → Nat} {K N : Nat} {bk : Nat → List Nat} {M x j : Nat} {A : List Bool} {T : List Nat}
theorem BkI.push {i c : Nat} (h : BkI mv K N bk i c) (hi : i < N) (hc : c < K) (hm : mv i c < N) : BkI mv K N (fun t => if t = mv i c then bk t ++ [i] else bk t) i (c + 1) := by
  refine ⟨fun t ht s hs => ?_, fun s hs d hd q => ?_⟩
  · by_cases e : t = mv i c
    · rw [if_pos e] at hs
      rcases List.mem_append.1 hs with q | q
      · exact h.fr t ht s q
      · rw [List.mem_singleton] at q; subst q; exact ⟨hi, c, hc, e.symm⟩
    · rw [if_neg e] at hs; exact h.fr t ht s hs
  · by_cases e : s = i ∧ d = c
    · obtain ⟨rfl, rfl⟩ := e; rw [if_pos rfl]; simp
    · have := h.on s hs d hd (by omega)
      by_cases e2 : mv s d = mv i c
      · rw [if_pos e2]; exact List.mem_append_left _ this
      · rw [if_neg e2]; exact this
theorem BkI.next {i : Nat} (h : BkI mv K N bk i K) : BkI mv K N bk (i + 1) 0 := ⟨h.fr, fun s hs d hd q => h.on s hs d hd (by omega)⟩
theorem LvI.seen (h : LvI rule mv K N bk M A T x j) (ha : bAt A (nAt (bk x) j) = true) : LvI rule mv K N bk M A T x (j + 1) :=
  ⟨h.len, h.ts, h.snd, h.rl, fun t ht hA => by
    rcases h.cl t ht hA with q | ⟨q, z⟩ | q
    · exact .inl q
    · refine .inr (.inl ⟨q, fun i hi hl => ?_⟩)
      by_cases e : i = j
      · subst e; subst q; exact ha
      · exact z i (by omega) hl
    · exact .inr (.inr q), h.sz⟩
theorem LvI.mark {c : Nat} {i : Nat} (h : LvI rule mv K N bk M A T x j) (hB : BkI mv K N bk i c) (hx : x < N) (hX : bAt A x = true) (hj : j < (bk x).length) (ha : bAt A (nAt (bk x) j) = false) :
    LvI rule mv K N bk M (A.set (nAt (bk x) j) true) (T ++ [nAt (bk x) j]) x (j + 1) := by
  obtain ⟨hs, d, hd, e⟩ := hB.fr x hx _ (nAt_mem hj)
  have hl : nAt (bk x) j < A.length := by rw [h.len]; exact hs
  have up : ∀ s, bAt A s = true → bAt (A.set (nAt (bk x) j) true) s = true := fun s q => by
    rw [bAt_set hl]
    split
    · rfl
    · exact q
  refine ⟨by rw [List.length_set]; exact h.len, fun t ht => ?_, fun s hs' q => ?_, fun s hs' q => up s (h.rl s hs' q), fun t ht q => ?_, ?_⟩
  · rcases List.mem_append.1 ht with z | z
    · exact h.ts t z
    · rw [List.mem_singleton] at z; subst z; exact hs
  · rw [bAt_set hl] at q
    by_cases e2 : nAt (bk x) j = s
    · rw [← e2]
      exact Live.st (K := (· < K)) hd (by rw [e]; exact h.snd x hx hX)
    · rw [if_neg e2] at q; exact h.snd s hs' q
  · rw [bAt_set hl] at q
    by_cases e2 : nAt (bk x) j = t
    · exact .inl (by rw [← e2]; simp)
    · rw [if_neg e2] at q
      rcases h.cl t ht q with z | ⟨z, y⟩ | z
      · exact .inl (List.mem_append_left _ z)
      · refine .inr (.inl ⟨z, fun i hi hl2 => ?_⟩)
        by_cases e3 : i = j
        · subst e3; subst z; rw [bAt_set hl, if_pos rfl]
        · exact up _ (y i (by omega) hl2)
      · exact .inr (.inr fun s hs2 => up s (z s hs2))
  · have := count_set hl ha
    have := h.sz
    simp; omega
/-- A state is walked back from whole. -/
theorem LvI.end_ (h : LvI rule mv K N bk M A T x (bk x).length) : LvI rule mv K N bk M A T N 0 :=
  ⟨h.len, h.ts, h.snd, h.rl, fun t ht hA => by
    rcases h.cl t ht hA with q | ⟨q, z⟩ | q
    · exact .inl q
    · refine .inr (.inr fun s hs => ?_)
      subst q
      obtain ⟨i, hi, e⟩ := mem_nAt hs
      rw [← e]; exact z i hi hi
    · exact .inr (.inr q), h.sz⟩
/-- The last of the list is taken. -/
theorem LvI.pop {t : Nat} (h : LvI rule mv K N bk (M + 1) A (T ++ [t]) N 0) : LvI rule mv K N bk M A T t 0 :=
  ⟨h.len, fun s hs => h.ts s (List.mem_append_left _ hs), h.snd, h.rl, fun s hs hA => by
    rcases h.cl s hs hA with q | ⟨q, z⟩ | q
    · rcases List.mem_append.1 q with y | y
      · exact .inl y
      · rw [List.mem_singleton] at y
        exact .inr (.inl ⟨y, fun i hi _ => by omega⟩)
    · omega
    · exact .inr (.inr q), by have := h.sz; simp at this; omega⟩
theorem LvI.done (h : LvI rule mv K N bk M A [] N 0) (hB : BkI mv K N bk N 0) (hmv : ∀ s c, s < N → c < K → mv s c < N) {s : Nat} (hs : s < N) : bAt A s = true ↔ Live rule mv (· < K) s :=
  live_of_closed (n := N) (l := bAt A) hmv h.rl (fun s c hs hc ha => by
    rcases h.cl _ (hmv s c hs hc) ha with q | ⟨q, _⟩ | q
    · simp at q
    · have := hmv s c hs hc; omega
    · exact q s (hB.on s hs c hc (.inl hs))) h.snd hs
end
end Go.Proofs.YthikgdogfkjioaaGreatDoor
