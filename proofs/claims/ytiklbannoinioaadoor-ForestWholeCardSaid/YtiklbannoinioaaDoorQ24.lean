/- The trees' iterator: where it tells none. · A region that draws its order, in a round of a range over a function: what is proved of it outside serves inside. · The trees' iterator: over the productions of a name. -/
import Derived.Test.YtiklbannoinioaaDoorQ22
import Derived.StillTailTactics
import Derived.BigQuiet
import Derived.RangeFuncNested
import Derived.OrdersIn
import Derived.RangeFuncCalls
namespace Go.Proofs.YtiklbannoinioaaDoor
open Go.RowKit Go.Shelf BigFrame Go.Maps
attribute [local go_sem] Oper.semAt_some
set_option linter.unusedVariables false
set_option linter.unusedSimpArgs false
set_option maxRecDepth 100000

section
variable (m : Nat) (S : Nat → Prop) (B c : Nat) (G : Gr) (Ap Al As : Option Addr) (np cp nl cl ns cs : Nat) (Ai : Option Addr) (ni ci : Nat) (inp : List Int) (C : Ct)
theorem Opn.look {m : Nat} {O : List K3} {w : World} (h : Opn m O w) {x : K3} (hx : inK x) : (Instr.lookup 56 (.map (some m)) (kV x) false).run Tryd.prog w = .ok (.int .i64 (if x ∈ O then 1 else 0)) w := SpM.look h hx

theorem lt_cellA {w : World} {q : Addr} {v : Value} (h : w.cell? q = some v) : q.block < w.heap.size := by
  unfold World.cell? at h
  rcases Nat.lt_or_ge q.block w.heap.size with e | e
  · exact e
  · rw [Array.getElem?_eq_none e] at h; simp at h
/-- What one production gives. -/
def prT (C : Ct) (G : Gr) (inp : List Int) (tr : K3 → List Tr) (x : K3) (p : Nat) : List Tr := if fitB C p (rtN G p).length x.2.1 x.2.2 then (rowsT C inp (allOf tr) (rtN G p) x.2.1 x.2.2).map (Tr.node (p : Int) 0) else []
set_option maxHeartbeats 4000000 in
theorem trees_none (O : List K3) (x : K3) (hx : inK x) (hno : x ∈ O ∨ x ∉ C.L) (bc bx : Nat) :
    IterC Tryd.prog m (Opn m O) (OpnX m) VT (PreT m S B c G Ap Al As np cp nl cl ns cs Ai ni ci inp C bc bx x) 25 #[.pointer (some ⟨bc, 0, none⟩), .pointer (some ⟨bx, 0, none⟩)] [] := by
  intro l J Jx X R W hs hp0 hop sJ sJx hY h0
  obtain ⟨hst, hf1, hf2, z1, zx0, zx1, zx2⟩ := hp0
  obtain ⟨W1, hW1⟩ : ∃ W1, W1 = W.alloc (.cells #[.func (.yield l) #[] #[]] 74) := ⟨_, rfl⟩
  have hb1 : Below W.heap.size W W1 := by rw [hW1]; exact (Below.refl _ _).alloc (Nat.le_refl _) _
  have k1 : Kp (fun _ => False) W W1 := Kp.of hb1
  have hst1 := hst.own k1 (fun _ q => q.elim)
  have hop1 : Opn m O W1 := hop.same (k1.block m hs.ms (fun q => q))
  have y1 := (hb1.cell (p := ⟨bc, 0, none⟩) (lt_cell z1)).trans z1
  have yx0 := (hb1.cell (p := ⟨bx, 0, none⟩) (lt_cell zx0)).trans zx0
  have yx1 := (hb1.cell (p := ⟨bx, 1, none⟩) (lt_cell zx1)).trans zx1
  have yx2 := (hb1.cell (p := ⟨bx, 2, none⟩) (lt_cell zx2)).trans zx2
  have y11 := hst1.ch.op
  have HFIN : Hid (∀ W2, Below W1.heap.size W1 W2 → ∃ X' R', Gro m X R W X' R' W2 ∧ ((Opn m O W2 ∧ J [] X' R' W2) ∨ (OpnX m W2 ∧ Jx () X' R' W2))) := Lib.hid (fun W2 hb2 => by
    have k2 : Kp (fun _ => False) W W2 := k1.trans (Kp.of hb2)
    exact ⟨X, R, (Gro.refl hs).own (k2.mono fun _ _ q => q.elim), .inl ⟨hop.same (k2.block m hs.ms (fun q => q)), sJ.k h0 hs (k2.mono fun _ _ q => q.elim)⟩⟩)
  by_cases q : x ∈ O
  · have hl0 : ∀ q, (Instr.lookup 56 (.map (some m)) (kV x) false).run Tryd.prog (W1.drewN q) = .ok (.int .i64 1) (W1.drewN q) := fun r => by
      have h3 : Opn m O (W1.drewN r) := hop1.same rfl
      have := h3.look hx
      rw [if_pos q] at this
      exact this
    unfold kV at hl0
    clear hst hst1 hop1 hop hs sJ sJx hY h0 hno hf1 hf2 z1 zx0 zx1 zx2 hb1 k1 q hx
    have HW1 := Lib.hid hW1
    rw [hW1] at y1 yx0 yx1 yx2 y11 hl0
    clear hW1
    refine callsIn_marks Tryd.func25 rfl ?_
    simp only [Tryd.ntmps25, List.size_toArray, List.length_cons, List.length_nil, Nat.reduceAdd, Nat.reduceSub, Array.replicate_succ, Array.replicate_zero, List.push_toArray, List.append_toArray, List.nil_append, List.cons_append]
    go_wp2_with fail
    go_quiet (fail)
    go_wp2_with fail
    rw [← HW1.out]
    exact ⟨_, results_none rfl _ _ _, rfl, HFIN.out _ (bel_dN (Below.refl _ _) _)⟩
  · have hnL : x ∉ C.L := hno.resolve_left q
    have HB : Hid (∀ X : WB W1.heap.size W1, X.val.cell? ⟨bc, 0, none⟩ = some (.pointer (some ⟨c, 0, none⟩)) ∧ X.val.cell? ⟨bx, 0, none⟩ = some (.int .i64 (x.1 : Int)) ∧ X.val.cell? ⟨bx, 1, none⟩ = some (.int .i64 (x.2.1 : Int)) ∧ X.val.cell? ⟨bx, 2, none⟩ = some (.int .i64 (x.2.2 : Int)) ∧ X.val.cell? ⟨c, 11, none⟩ = some (.map (some m)) ∧
        (Instr.lookup 56 (.map (some m)) (kV x) false).run Tryd.prog X.val = .ok (.int .i64 0) X.val ∧ Calls Tryd.prog 16 #[.pointer (some ⟨c, 0, none⟩), kV x] X.val fun e w' => e = .returned (.bool false) ∧ Below X.val.heap.size X.val w') := Lib.hid (fun X => by
      have hl : (Instr.lookup 56 (.map (some m)) (kV x) false).run Tryd.prog X.val = .ok (.int .i64 0) X.val := by
        have h3 : Opn m O X.val := hop1.same (X.bel.block m (Nat.lt_of_lt_of_le hs.ms hb1.size))
        have := h3.look hx
        rw [if_neg q] at this
        exact this
      have hc := stands_any G Ap Al As np cp nl cl ns cs Ai ni ci inp C S B c m x hx X.val (hst1.ch.bel (fun b q => (hst1.lt b q).1) X.bel)
      rw [decide_eq_false hnL] at hc
      exact ⟨(X.bel.cell (p := ⟨bc, 0, none⟩) (lt_cell y1)).trans y1, (X.bel.cell (p := ⟨bx, 0, none⟩) (lt_cell yx0)).trans yx0, (X.bel.cell (p := ⟨bx, 1, none⟩) (lt_cell yx1)).trans yx1, (X.bel.cell (p := ⟨bx, 2, none⟩) (lt_cell yx2)).trans yx2, (X.bel.cell (p := ⟨c, 11, none⟩) (lt_cell y11)).trans y11, hl, hc⟩)
    unfold kV at HB
    clear hst hst1 hop1 hop hs sJ sJx hY h0 hno hf1 hf2 z1 zx0 zx1 zx2 k1 q hx hnL y1 yx0 yx1 yx2 y11
    refine callsIn_marks Tryd.func25 rfl ?_
    simp only [Tryd.ntmps25, List.size_toArray, List.length_cons, List.length_nil, Nat.reduceAdd, Nat.reduceSub, Array.replicate_succ, Array.replicate_zero, List.push_toArray, List.append_toArray, List.nil_append, List.cons_append]
    go_wp2_with fail
    rw [← hW1]
    refine wp_region_cls (B := W1.heap.size) (w0 := W1) (by kernel_rfl) (by kernel_rfl) (Below.refl _ _) ?_
    have z0 := fun X => (HB.out X).1
    have z1 := fun X => (HB.out X).2.1
    have z2 := fun X => (HB.out X).2.2.1
    have z3 := fun X => (HB.out X).2.2.2.1
    have z4 := fun X => (HB.out X).2.2.2.2.1
    have z5 := fun X => (HB.out X).2.2.2.2.2.1
    repeat (first | go_big_quiet_skip | (go_big_quiet_want; go_big_quiet_op; go_big_quiet_on))
    go_big_quiet_want
    go_big_quiet_op
    refine ⟨.bool false, fun X => X.call (Nat.le_refl _) (HB.out X).2.2.2.2.2.2, ?_⟩
    go_big_quiet_on
    repeat (first | go_big_quiet_skip | (go_big_quiet_want; go_big_quiet_op; go_big_quiet_on))
    refine wpQuiet_nil ?_
    intro Y
    have HYB := Lib.hid Y.bel
    generalize Y.val = W2 at *
    clear hW1 z0 z1 z2 z3 z4 z5
    go_wp2_with fail
    exact ⟨_, results_none rfl _ _ _, rfl, HFIN.out _ HYB.out⟩
end
end Go.Proofs.YtiklbannoinioaaDoor
namespace Go.Proofs.YtiklbannoinioaaDoor
open Go
set_option linter.unusedVariables false

section
variable {P : Program} {ops : Array Oper} {Q : Exit → Act → World → Prop}
/-- Only the end of all operations is a way out. -/
def onlyN (Q : Exit → Act → World → Prop) : Exit → Act → World → Prop := fun e a w => e = .normal ∧ Q e a w
theorem opIn_of_op {r m i : Nat} (hnd : ∀ o, ops[i]? = some o → ∀ c, o.op ≠ .defer c) {K K' : Act → World → Prop} (hK : ∀ a w, K a w → K' a w) {a : Act} {w : World} (h : wpOp P ops (onlyN Q) i K a w) : wpOpIn (Fence.wide.inRound r) m P ops Q i K' a w := by
  unfold wpOp at h
  unfold wpOpIn
  cases ho : ops[i]? with
  | none => rw [ho] at h; exact hK _ _ h
  | some o =>
    rw [ho] at h
    simp only at h ⊢
    split
    · rename_i hw
      rw [if_pos hw] at h
      rcases h with h | ⟨_, a', w', hq⟩
      · unfold Oper.wp at h
        refine ⟨fun _ _ => trivial, ?_⟩
        rw [Oper.semAt_eq _ _ _ (hnd o ho)]
        generalize (execOp a.eval o).run P w = res at h
        cases res with
        | halt x w' => cases x <;> first | exact h.elim | exact absurd h.1 (by simp)
        | ok x w' =>
          cases x with
          | value v => exact hK _ _ h
          | skip => exact hK _ _ h
          | defer d => exact hK _ _ h
          | enter f args =>
            refine ⟨fun q => (by cases q), CallsIn.inRound r (callsIn_wide.2 (Calls.mono h fun e w'' he => ?_))⟩
            cases e with
            | returned v => exact hK _ _ he
            | panicked c => exact absurd he.1 (by simp)
            | outgrown => obtain ⟨a2, w2, hq⟩ := he; exact absurd hq.1 (by simp)
          | row row args =>
            refine ⟨fun q => (by cases q), fun c cs _ => ?_⟩
            obtain ⟨v, w2, h1, h2⟩ := h c cs
            exact ⟨v, w2, hK _ _ h1, stepsIn_wide.2 h2⟩
          | _ => exact h.elim
      · exact absurd hq.1 (by simp)
    · rename_i hw
      rw [if_neg hw] at h
      exact ⟨fun _ _ => trivial, hK _ _ h⟩
theorem anyIn_of_any {md : Region.Mode} {r m : Nat} (hnd : ∀ (i : Nat) (o : Oper), ops[i]? = some o → ∀ c, o.op ≠ .defer c) : ∀ (n : Nat) (listed : Array Bool) (a : Act) (w : World), wpAny P md ops (onlyN Q) n listed a w → wpAnyIn (Fence.wide.inRound r) m P md ops Q n listed a w
  | 0, listed, a, w, h => ⟨h.1, h.2.2⟩
  | n + 1, listed, a, w, h => ⟨fun e => (h.1 e).2, fun i hi => opIn_of_op (hnd i) (fun a w q => anyIn_of_any hnd n _ a w q) (h.2 i hi)⟩
end
def noDefer (l : List Oper) : Bool := l.all fun o => match o.op with | .defer _ => false | _ => true
/-- No operation of the list leaves something for the end. -/
theorem wpIn_region_tail {P : Program} {r m : Nat} {id : Nat} {Q : Exit → Act → World → Prop} {a : Act} {w : World} {l : List Oper} (n : Nat) (hm : P.follows .mixedOrders = true) (hB : Region.lexTailB .any l.toArray n = true)
    (hnB : noDefer l = true)
    (h : wpStill P l.toArray { w with drawn := w.drawn + 1 } (fun a' => wpList P l.toArray (onlyN Q) (l.drop n) a' { w with drawn := w.drawn + 1 }) (l.take n) a) : (Code.region id l.toArray true).wpIn (Fence.wide.inRound r) m P Q a w := by
  have hnd : ∀ (i : Nat) (o : Oper), l.toArray[i]? = some o → ∀ c, o.op ≠ .defer c := fun i o h c e => by
    have := List.all_eq_true.1 hnB o (List.mem_of_getElem? (by simpa using h))
    rw [e] at this
    simp at this
  simp only [Region.lexTailB, Bool.and_eq_true, decide_eq_true_eq] at hB
  obtain ⟨⟨⟨⟨hsel, hn⟩, hs⟩, hc⟩, hlex⟩ := hB
  have hn' : n < l.length := by simpa using hn
  have htl : (l.take n).length = n := by simp; omega
  have hdl : (l.drop n).length = l.toArray.size - n := by simp
  have inv0 : HeadInv .any l.toArray n (Array.replicate l.toArray.size false) :=
    ⟨by simp, fun j oj _ hl => (by rw [getD_replicate_false] at hl; cases hl), fun t _ ht => getD_in (by simpa using ht) (getD_replicate_false _ _)⟩
  have H := wpAnyL_lex (md := .any) (g := l.toArray.size - n) hsel hs hc hn (l.take n) 0 _ a (fun j hj => by
    have hj' : j < n := by rw [htl] at hj; exact hj
    simp [hj']) (by simpa using htl) inv0 (by rw [htl]; exact hlex) h
  refine wpIn_region_any hm (anyIn_of_any hnd _ _ _ _ ?_)
  have := wpAny_of_head (Q' := onlyN Q) (g := l.toArray.size - n) (fun listed a' hL => by
    have := wpAny_of_seq (md := .any) (Q' := onlyN Q) (l.drop n) n listed a' { w with drawn := w.drawn + 1 } (fun j => by simp [List.getElem?_drop]) (by rw [hdl]; exact hL.1) hL.2
    rwa [hdl] at this) _ _ _ H
  rw [htl, show n + (l.toArray.size - n) = l.toArray.size by omega] at this
  exact this
end Go.Proofs.YtiklbannoinioaaDoor
namespace Go.Proofs.YtiklbannoinioaaDoor
open Go.RowKit Go.Shelf BigFrame Go.Maps
attribute [local go_sem] Oper.semAt_some
set_option linter.unusedVariables false
set_option linter.unusedSimpArgs false
set_option maxRecDepth 100000

/-- Where the loop over the productions stands. -/
structure TInv (m : Nat) (O : List K3) (J : Inv (List Tr)) (fm : Nat → List Tr) (l : Nat) (ps : List Nat) (X R : Nat → Prop) (W : World) (k : Nat) (Ds : List Nat) (X' R' : Nat → Prop) (wr : World) : Prop where
  kj : k ≤ ps.length
  g : Gro m X R W X' R' wr
  jl : J ((ps.take k).flatMap fm) X' R' wr
  op : Opn m O wr
  yb : Mine m X' R' wr W.heap.size
  yc : wr.cell? ⟨W.heap.size, 0, none⟩ = some (.func (.yield l) #[] #[])
  nd : Ds.Nodup
  ds : ∀ D ∈ Ds, Mine m X' R' wr D ∧ wr.heap[D]? = some (.deferred (some [])) ∧ W.heap.size ≤ D
section
variable {m : Nat} {O : List K3} {J : Inv (List Tr)} {fm : Nat → List Tr} {l : Nat} {ps : List Nat} {X R : Nat → Prop} {W : World} {k : Nat} {Ds : List Nat} {X' R' X'' R'' : Nat → Prop} {wr w4 W3 : World}
/-- Steps of one's own, and nothing new. -/
theorem TInv.skip {p : Nat} (h : TInv m O J fm l ps X R W k Ds X' R' wr) (hk : ps[k]? = some p) (sJ : Stab m W.heap.size J) (hb : Below wr.heap.size wr W3) (he : fm p = []) : TInv m O J fm l ps X R W (k + 1) Ds X' R' W3 := by
  have k3 : Kp (fun _ => False) wr W3 := Kp.of hb
  have hlt := (List.getElem?_eq_some_iff.1 hk).1
  refine ⟨hlt, h.g.own (k3.mono fun _ _ q => q.elim), ?_, h.op.same (k3.block m h.g.sep.ms (fun q => q)), h.yb.keep k3.size, (k3.cell (p := ⟨W.heap.size, 0, none⟩) h.yb.lt (fun q => q)).trans h.yc, h.nd, fun D q => ?_⟩
  · have e : (ps.take (k + 1)).flatMap fm = (ps.take k).flatMap fm := by rw [List.take_add_one, hk, List.flatMap_append]; simp [he]
    rw [e]
    exact sJ.k h.jl h.g.sep (k3.mono fun _ _ q => q.elim)
  · obtain ⟨q1, q2, q3⟩ := h.ds D q
    exact ⟨q1.keep k3.size, (k3.block D q1.lt (fun q => q)).trans q2, q3⟩
/-- A production's rows have come. w4: where the loop over them began; W3: where it ended; Wz: the span is not open any more. -/
theorem TInv.next {p D : Nat} {Wz : World} (h : TInv m O J fm l ps X R W k Ds X' R' wr) (hk : ps[k]? = some p) (sJ : Stab m W.heap.size J) (h4 : Kp (fun k => k = m) wr w4) (g : Gro m X' R' w4 X'' R'' W3) (hD : w4.heap.size ≤ D) (hDh : W3.heap[D]? = some (.deferred (some []))) (hDx : ¬ X'' D) (hDr : ¬ R'' D)
    (hz : Kp (fun k => k = m) W3 Wz) (hj : J ((ps.take k).flatMap fm ++ fm p) X'' R'' W3) (hop : Opn m O Wz) :
    TInv m O J fm l ps X R W (k + 1) (D :: Ds) X'' R'' Wz := by
  have hsz := h.g.kp.size
  have hs4 := h4.size
  have hlt := (List.getElem?_eq_some_iff.1 hk).1
  have G : Gro m X R W X'' R'' W3 := h.g.step (h4.mono fun _ _ q => .inr q) (fun _ q => q) (fun _ q => .inl q) g
  have mk : ∀ b, Mine m X' R' wr b → Mine m X'' R'' Wz b ∧ Wz.heap[b]? = wr.heap[b]? := fun b hb => by
    have e1 := (hb.keep hs4).gro g
    exact ⟨e1.keep hz.size, (hz.block b e1.lt hb.m).trans ((g.same (Nat.lt_of_lt_of_le hb.lt hs4) hb.x hb.m).trans (h4.block b hb.lt hb.m))⟩
  have hDl := (Array.getElem?_eq_some_iff.1 hDh).1
  have hDm : D ≠ m := fun e => by have := h.g.sep.ms; omega
  obtain ⟨y1, y2⟩ := mk _ h.yb
  refine ⟨hlt, G.own (hz.mono fun _ _ q => .inr q), ?_, hop, y1, (World.cell?_of_block (a := ⟨W.heap.size, 0, none⟩) y2).trans h.yc, List.nodup_cons.2 ⟨fun q => by have := (h.ds D q).1.lt; omega, h.nd⟩, fun D' q => ?_⟩
  · have e : (ps.take (k + 1)).flatMap fm = (ps.take k).flatMap fm ++ fm p := by rw [List.take_add_one, hk, List.flatMap_append]; simp
    rw [e]
    exact sJ.k hj G.sep (hz.mono fun _ _ q => .inr q)
  · rcases List.mem_cons.1 q with rfl | q
    · exact ⟨⟨Nat.lt_of_lt_of_le hDl hz.size, hDx, hDr, hDm⟩, (hz.block _ hDl hDm).trans hDh, by omega⟩
    · obtain ⟨q1, q2, q3⟩ := h.ds D' q
      obtain ⟨q4, q5⟩ := mk D' q1
      exact ⟨q4, q5.trans q2, q3⟩
/-- The end of all. -/
theorem trees_fin {Jx : Inv Unit} {fn : Func} {tmps : Array Value} {L : List Tr} (hres : fn.results = #[]) (g : Gro m X R W X' R' wr) (sJ : Stab m W.heap.size J) (sJx : Stab m W.heap.size Jx) (hn : Ds.Nodup)
    (hd : ∀ D ∈ Ds, Mine m X' R' wr D ∧ wr.heap[D]? = some (.deferred (some [])) ∧ W.heap.size ≤ D) (hj : (Opn m O wr ∧ J L X' R' wr) ∨ (OpnX m wr ∧ Jx () X' R' wr)) :
    LeavesInM Fence.wide 9 Tryd.prog fn tmps (fun e W' => e = .returned (.tuple #[]) ∧ ∃ X' R', Gro m X R W X' R' W' ∧ ((Opn m O W' ∧ J L X' R' W') ∨ (OpnX m W' ∧ Jx () X' R' W'))) (marks Ds) .returning wr := by
  refine leaves_marks Ds wr hn (fun D q => (hd D q).2.1) (fun W' hk => ?_)
  have k2 : Kp (fun k => (W.heap.size ≤ k ∧ ¬ X' k ∧ ¬ R' k) ∨ k = m) wr W' := hk.mono fun k _ q => .inl ⟨(hd k q).2.2, (hd k q).1.x, (hd k q).1.r⟩
  have e := hk.block m g.sep.ms (fun q => (hd m q).1.m rfl)
  exact ⟨_, results_none hres _ _ _, rfl, X', R', g.own k2, hj.elim (fun h => .inl ⟨h.1.same e, sJ.k h.2 g.sep k2⟩) (fun h => .inr ⟨h.1.same e, sJx.k h.2 g.sep k2⟩)⟩
end

section
variable (m : Nat) (S : Nat → Prop) (B c : Nat) (G : Gr) (Ap Al As : Option Addr) (np cp nl cl ns cs : Nat) (Ai : Option Addr) (ni ci : Nat) (inp : List Int) (C : Ct)
set_option maxHeartbeats 4000000 in
theorem trees_go (hk : GOk G) (hn : ni ≤ 100) (O : List K3) (x : K3) (hx : inK x) (hxn : (x.1 : Int) < G.names) (hxi : x.2.1 ≤ ni) (hxj : x.2.2 ≤ ni) (hO : O.length ≤ 1000000) (hno : x ∉ O) (hL : x ∈ C.L) (tr : K3 → List Tr)
    (hR : ∀ p, p < np → ∀ b1 b2 b3 b4 b5, IterC Tryd.prog m (Opn m (x :: O)) (OpnX m) (VL ((rtN G p).length - 0)) (PreR m S B c G Ap Al As np cp nl cl ns cs Ai ni ci inp C b1 b2 b3 b4 b5 p 0 x.2.1 x.2.2) 37 #[.pointer (some ⟨b1, 0, none⟩), .pointer (some ⟨b2, 0, none⟩), .pointer (some ⟨b3, 0, none⟩), .pointer (some ⟨b4, 0, none⟩), .pointer (some ⟨b5, 0, none⟩)] (rowsT C inp (allOf tr) ((rtN G p).drop 0) x.2.1 x.2.2)) (bc bx : Nat) :
    IterC Tryd.prog m (Opn m O) (OpnX m) VT (PreT m S B c G Ap Al As np cp nl cl ns cs Ai ni ci inp C bc bx x) 25 #[.pointer (some ⟨bc, 0, none⟩), .pointer (some ⟨bx, 0, none⟩)] ((byN G x.1).flatMap (prT C G inp tr x)) := by
  intro l J Jx X R W hs hp0 hop sJ sJx hY h0
  obtain ⟨hst, hf1, hf2, z1, zx0, zx1, zx2⟩ := hp0
  have hpl : G.prods.length = np := hst.ch.gi.p.len.1
  obtain ⟨W1, hW1⟩ : ∃ W1, W1 = W.alloc (.cells #[.func (.yield l) #[] #[]] 74) := ⟨_, rfl⟩
  have hb1 : Below W.heap.size W W1 := by rw [hW1]; exact (Below.refl _ _).alloc (Nat.le_refl _) _
  have hz1 : W1.heap.size = W.heap.size + 1 := by rw [hW1]; simp
  have hc1 : W1.cell? ⟨W.heap.size, 0, none⟩ = some (.func (.yield l) #[] #[]) := by rw [hW1]; exact cell_newA W [.func (.yield l) #[] #[]] _ _ _ _ rfl rfl
  have k1 : Kp (fun _ => False) W W1 := Kp.of hb1
  have hst1 := hst.own k1 (fun _ q => q.elim)
  have hop1 : Opn m O W1 := hop.same (k1.block m hs.ms (fun q => q))
  have y1 := (hb1.cell (p := ⟨bc, 0, none⟩) (lt_cell z1)).trans z1
  have yx0 := (hb1.cell (p := ⟨bx, 0, none⟩) (lt_cell zx0)).trans zx0
  have yx1 := (hb1.cell (p := ⟨bx, 1, none⟩) (lt_cell zx1)).trans zx1
  have yx2 := (hb1.cell (p := ⟨bx, 2, none⟩) (lt_cell zx2)).trans zx2
  have y11 := hst1.ch.op
  obtain ⟨bn, nb, cb, y7, hnb, hcb1, hcb2, hSbn, hrows⟩ := hst1.ch.by_
  obtain ⟨A', c', yr, hr1, hr2, hrs⟩ := hrows x.1 (by omega)
  have hxnb : x.1 < nb := by omega
  obtain ⟨ps, hps⟩ : ∃ ps, ps = byN G x.1 := ⟨_, rfl⟩
  rw [← hps] at yr hr1 hrs hY ⊢
  have hpsm : ∀ p ∈ ps, p < np := fun p hp => by rw [hps] at hp; rw [← hpl]; exact (mem_byN.1 hp).1
  have HB : Hid (∀ X : WB W1.heap.size W1, X.val.cell? ⟨bc, 0, none⟩ = some (.pointer (some ⟨c, 0, none⟩)) ∧ X.val.cell? ⟨bx, 0, none⟩ = some (.int .i64 (x.1 : Int)) ∧ X.val.cell? ⟨bx, 1, none⟩ = some (.int .i64 (x.2.1 : Int)) ∧ X.val.cell? ⟨bx, 2, none⟩ = some (.int .i64 (x.2.2 : Int)) ∧ X.val.cell? ⟨c, 11, none⟩ = some (.map (some m)) ∧
      (Instr.lookup 56 (.map (some m)) (kV x) false).run Tryd.prog X.val = .ok (.int .i64 0) X.val ∧ Calls Tryd.prog 16 #[.pointer (some ⟨c, 0, none⟩), kV x] X.val fun e w' => e = .returned (.bool true) ∧ Below X.val.heap.size X.val w') := Lib.hid (fun X => by
    have hl : (Instr.lookup 56 (.map (some m)) (kV x) false).run Tryd.prog X.val = .ok (.int .i64 0) X.val := by
      have h3 : Opn m O X.val := hop1.same (X.bel.block m (Nat.lt_of_lt_of_le hs.ms hb1.size))
      have := h3.look hx
      rw [if_neg hno] at this
      exact this
    have hc := stands_any G Ap Al As np cp nl cl ns cs Ai ni ci inp C S B c m x hx X.val (hst1.ch.bel (fun b q => (hst1.lt b q).1) X.bel)
    rw [decide_eq_true hL] at hc
    exact ⟨(X.bel.cell (p := ⟨bc, 0, none⟩) (lt_cell y1)).trans y1, (X.bel.cell (p := ⟨bx, 0, none⟩) (lt_cell yx0)).trans yx0, (X.bel.cell (p := ⟨bx, 1, none⟩) (lt_cell yx1)).trans yx1, (X.bel.cell (p := ⟨bx, 2, none⟩) (lt_cell yx2)).trans yx2, (X.bel.cell (p := ⟨c, 11, none⟩) (lt_cell y11)).trans y11, hl, hc⟩)
  unfold kV at HB
  have HPS := Lib.hid hps; have HPM := Lib.hid hpsm; have HRS := Lib.hid hrs; have HST := Lib.hid hst; have HST1 := Lib.hid hst1; have HS := Lib.hid hs; have HOP1 := Lib.hid hop1; have SJ := Lib.hid sJ; have SJX := Lib.hid sJx; have HY := Lib.hid hY; have HJ0 := Lib.hid h0; have K1 := Lib.hid k1; have HB1 := Lib.hid hb1; have HC1 := Lib.hid hc1; have HZ1 := Lib.hid hz1; have HR := Lib.hid hR; have HXK := Lib.hid hx; have HNO := Lib.hid hno
  have HZ := Lib.hid (And.intro y1 (And.intro yx0 (And.intro yx1 (And.intro yx2 (And.intro y11 (And.intro y7 yr))))))
  have HFX := Lib.hid (And.intro hf1 hf2)
  unfold maxLen at hr2 hcb2
  clear hst hst1 hop1 hop hs sJ sJx hY h0 hno hf1 hf2 z1 zx0 zx1 zx2 k1 hx hL y1 yx0 yx1 yx2 y11 hps hpsm hrs hrows hb1 hc1 hz1 hR y7 yr hnb
  refine callsIn_marks Tryd.func25 rfl ?_
  simp only [Tryd.ntmps25, List.size_toArray, List.length_cons, List.length_nil, Nat.reduceAdd, Nat.reduceSub, Array.replicate_succ, Array.replicate_zero, List.push_toArray, List.append_toArray, List.nil_append, List.cons_append]
  go_wp2_with fail
  rw [← hW1]
  clear hW1
  refine wp_region_cls (B := W1.heap.size) (w0 := W1) (by kernel_rfl) (by kernel_rfl) (Below.refl _ _) ?_
  have z0 := fun X => (HB.out X).1
  have z1 := fun X => (HB.out X).2.1
  have z2 := fun X => (HB.out X).2.2.1
  have z3 := fun X => (HB.out X).2.2.2.1
  have z4 := fun X => (HB.out X).2.2.2.2.1
  have z5 := fun X => (HB.out X).2.2.2.2.2.1
  repeat (first | go_big_quiet_skip | (go_big_quiet_want; go_big_quiet_op; go_big_quiet_on))
  go_big_quiet_want
  go_big_quiet_op
  refine ⟨.bool true, fun X => X.call (Nat.le_refl _) (HB.out X).2.2.2.2.2.2, ?_⟩
  go_big_quiet_on
  repeat (first | go_big_quiet_skip | (go_big_quiet_want; go_big_quiet_op; go_big_quiet_on))
  refine wpQuiet_nil ?_
  intro Y
  have HYB := Lib.hid Y.bel
  generalize Y.val = W2 at *
  clear z0 z1 z2 z3 z4 z5 HB
  obtain ⟨y1, yx0, yx1, yx2, y11, y7, yr⟩ := HZ.out
  have u1 := (HYB.out.cell (p := ⟨bc, 0, none⟩) (lt_cell y1)).trans y1
  have ux0 := (HYB.out.cell (p := ⟨bx, 0, none⟩) (lt_cell yx0)).trans yx0
  have u7 := (HYB.out.cell (p := ⟨c, 7, none⟩) (lt_cell y7)).trans y7
  have ur := (HYB.out.cell (p := ⟨bn, x.1, none⟩) (lt_cell yr)).trans yr
  clear y1 yx0 yx1 yx2 y11 y7 yr
  go_wp2_with fail
  go_quiet (fail)
  go_wp2_with fail
  obtain ⟨W3, hW3⟩ : ∃ W3, W3 = W2.drewN nq := ⟨_, rfl⟩
  have hb13 : Below W1.heap.size W1 W3 := by rw [hW3]; exact bel_dN HYB.out _
  rw [← hW3]
  have HB13 := Lib.hid hb13
  clear hW3 hb13 u1 ux0 u7 ur HYB
  obtain ⟨IV, hIV⟩ : ∃ IV : Nat → Act → World → Prop, IV = fun gk a w => ∃ k Ds X' R', gk = ps.length - k ∧ TInv m O J (prT C G inp tr x) l ps X R W k Ds X' R' w ∧ ∃ u5 u31 u32 u33 u34 u35 u36 u37 u38 u39 u40 u41 u42 u43 u44 u45 u46 u47 u48 u49 u50 u51 u52 u53 u54 u55 u56 u57 u58 u59 u60 u61 u62 u63 u64 u65 u66 u67 u68 u69 u70 u71 u72 u73 u74 u75 u76 u77 u78 u79 u80 u81 u82 u83 u84 u85 u86 u87 u88 u89 u90 u91 u92 u93, a = { tmps := #[Value.func (Fn.yield l) #[] #[], .pointer (some ⟨bc, 0, none⟩), .pointer (some ⟨bx, 0, none⟩), .pointer (some ⟨W.heap.size, 0, none⟩), undef, u5, undef, undef, .pointer (some ⟨c, 0, none⟩), .pointer (some ⟨c, 0, none⟩), .pointer (some ⟨c, 11, none⟩), .map (some m), .agg #[.int .i64 (x.1 : Int), .int .i64 (x.2.1 : Int), .int .i64 (x.2.2 : Int)], .int .i64 0, .bool false, .bool false, .pointer (some ⟨c, 0, none⟩), .agg #[.int .i64 (x.1 : Int), .int .i64 (x.2.1 : Int), .int .i64 (x.2.2 : Int)], .bool true, .bool false, .bool false, .pointer (some ⟨c, 0, none⟩), .pointer (some ⟨c, 0, none⟩), .pointer (some ⟨c, 7, none⟩), .slice (some ⟨bn, 0, none⟩) nb cb, .pointer (some ⟨bx, 0, none⟩), .int .i64 (x.1 : Int), .pointer (some ⟨bn, x.1, none⟩), .slice A' ps.length c', .int .i64 (ps.length : Int), .int .i64 (k : Int), u31, u32, u33, u34, u35, u36, u37, u38, u39, u40, u41, u42, u43, u44, u45, u46, u47, u48, u49, u50, u51, u52, u53, u54, u55, u56, u57, u58, u59, u60, u61, u62, u63, u64, u65, u66, u67, u68, u69, u70, u71, u72, u73, u74, u75, u76, u77, u78, u79, u80, u81, u82, u83, u84, u85, u86, u87, u88, u89, u90, u91, u92, u93], defers := marks Ds } := ⟨_, rfl⟩
  have HIV := Lib.hid hIV
  clear hIV
  refine wp_loop_ghost_k IV ps.length ?_ ?_
  · rw [HIV.out]
    refine ⟨0, [], X, R, by omega, ?_, ?_⟩
    · have k3 : Kp (fun _ => False) W W3 := K1.out.trans (Kp.of HB13.out)
      have hs13 := HB13.out.size
      have hz1 := HZ1.out
      exact ⟨Nat.zero_le _, (Gro.refl HS.out).own (k3.mono fun _ _ q => q.elim), SJ.out.k HJ0.out HS.out (k3.mono fun _ _ q => q.elim), HOP1.out.same (HB13.out.block m (by have := HS.out.ms; omega)), Mine.new HS.out (Nat.le_refl _) (by omega), (HB13.out.cell (p := ⟨W.heap.size, 0, none⟩) (by show W.heap.size < _; omega)).trans HC1.out, List.nodup_nil, fun D q => by cases q⟩
    · (repeat apply Exists.intro)
      rfl
  · intro gk a wr hI KJ KK hKJ hKK
    rw [HIV.out] at hI
    obtain ⟨k, Ds, X', R', rfl, HI, u5, u31, u32, u33, u34, u35, u36, u37, u38, u39, u40, u41, u42, u43, u44, u45, u46, u47, u48, u49, u50, u51, u52, u53, u54, u55, u56, u57, u58, u59, u60, u61, u62, u63, u64, u65, u66, u67, u68, u69, u70, u71, u72, u73, u74, u75, u76, u77, u78, u79, u80, u81, u82, u83, u84, u85, u86, u87, u88, u89, u90, u91, u92, u93, rfl⟩ := hI
    have HI0 := Lib.hid HI
    have hg := HI.g
    have hst := HST.out.gro hg
    obtain ⟨hf1, hf2⟩ := HFX.out
    have hB1 := HB1.out
    -- cells of W that stay
    have cellK : ∀ (q : Addr) (v : Value), W1.cell? q = some v → q.block < W.heap.size → ¬ X q.block → q.block ≠ m → wr.cell? q = some v := fun q v h1 h2 h3 h4 => ((World.cell?_of_block (a := q) (hg.same h2 h3 h4)).trans (hB1.cell (p := q) h2).symm).trans h1
    obtain ⟨y1, yx0, yx1, yx2, y11, y7, yr⟩ := HZ.out
    have hcS := HST.out.lt c HST.out.ch.cS
    have zc1 := cellK ⟨bc, 0, none⟩ _ y1 hf1.1 hf1.2.1 hf1.2.2
    have zx0 := cellK ⟨bx, 0, none⟩ _ yx0 hf2.1 hf2.2.1 hf2.2.2
    have zx1 := cellK ⟨bx, 1, none⟩ _ yx1 hf2.1 hf2.2.1 hf2.2.2
    have zx2 := cellK ⟨bx, 2, none⟩ _ yx2 hf2.1 hf2.2.1 hf2.2.2
    have zc11 := cellK ⟨c, 11, none⟩ _ y11 hcS.1 hcS.2.1 hcS.2.2
    have HSTR := Lib.hid hst
    clear HI hg hst cellK y1 yx0 yx1 yx2 y11 y7 yr hf1 hf2 hcS hB1
    by_cases q : k < ps.length
    rotate_left
    · have dq : decide (k < ps.length) = false := decide_eq_false q
      have HQ := Lib.hid q
      clear q
      as_aux_lemma =>
        go_wp2_with fail
        refine trees_fin rfl HI0.out.g SJ.out SJX.out HI0.out.nd HI0.out.ds (.inl ⟨HI0.out.op, ?_⟩)
        have h3 := HI0.out.jl
        have h4 := HI0.out.kj
        have h5 := HQ.out
        rw [List.take_of_length_le (by omega)] at h3
        exact h3
    · have dq : decide (k < ps.length) = true := decide_eq_true q
      obtain ⟨p, hp⟩ : ∃ p, ps[k]? = some p := ⟨_, List.getElem?_eq_getElem q⟩
      have hpn := HPM.out p (List.mem_of_getElem? hp)
      obtain ⟨rb, ro, rfl, hrb, hrc⟩ := HRS.out (by rw [List.length_map]; omega)
      have zp0 := hrc k (by rw [List.length_map]; exact q)
      have hrW := HST.out.lt rb hrb
      have zpw : wr.cell? ⟨rb, ro + k, none⟩ = some (.int .i64 (p : Int)) := by
        have e : nth (ps.map fun (p : Nat) => (p : Int)) k = (p : Int) := by unfold nth; rw [List.getD_eq_getElem?_getD, List.getElem?_map, hp]; rfl
        rw [e] at zp0
        exact ((World.cell?_of_block (a := ⟨rb, ro + k, none⟩) (HI0.out.g.same hrW.1 hrW.2.1 hrW.2.2)).trans (HB1.out.cell (p := ⟨rb, ro + k, none⟩) hrW.1).symm).trans zp0
      obtain ⟨b, off, A3, n3, c3, rfl, hb, w0, w1, e1, e2, e3, e4⟩ := HSTR.out.ch.gi.p.rt hpn
      have hl := rtN_len hk (p := p) (by omega)
      unfold maxLen at e3
      obtain ⟨W5, hW5⟩ : ∃ W5, W5 = wr.alloc (.cells #[.int .i64 (p : Int)] 3) := ⟨_, rfl⟩
      obtain ⟨pb, hpb⟩ : ∃ pb, pb = wr.heap.size := ⟨_, rfl⟩
      have hb5 : Below wr.heap.size wr W5 := by rw [hW5]; exact (Below.refl _ _).alloc (Nat.le_refl _) _
      have hz5 : W5.heap.size = wr.heap.size + 1 := by rw [hW5]; simp
      have k5 : Kp (fun _ => False) wr W5 := Kp.of hb5
      have hst5 := HSTR.out.own k5 (fun _ q => q.elim)
      have v1 := (hb5.cell (p := ⟨bc, 0, none⟩) (lt_cell zc1)).trans zc1
      have v2 : W5.cell? ⟨pb, 0, none⟩ = some (.int .i64 (p : Int)) := by rw [hW5]; exact cell_newA wr [.int .i64 (p : Int)] _ _ _ _ hpb.symm rfl
      have v3 := hst5.ch.g3
      have v4 := (hb5.cell (p := ⟨b, off + p * 3 + 1, none⟩) (lt_cell w1)).trans w1
      have v5 := (hb5.cell (p := ⟨bx, 0, none⟩) (lt_cell zx0)).trans zx0
      have v6 := (hb5.cell (p := ⟨bx, 1, none⟩) (lt_cell zx1)).trans zx1
      have v7 := (hb5.cell (p := ⟨bx, 2, none⟩) (lt_cell zx2)).trans zx2
      have v8 := (hb5.cell (p := ⟨c, 11, none⟩) (lt_cell zc11)).trans zc11
      have HB5 : Hid (∀ X : WB W5.heap.size W5, X.val.cell? ⟨bc, 0, none⟩ = some (.pointer (some ⟨c, 0, none⟩)) ∧ X.val.cell? ⟨pb, 0, none⟩ = some (.int .i64 (p : Int)) ∧ X.val.cell? ⟨c, 3, none⟩ = some (.slice (some ⟨b, off, none⟩) np cp) ∧ X.val.cell? ⟨b, off + p * 3 + 1, none⟩ = some (.slice A3 n3 c3) ∧
          X.val.cell? ⟨bx, 1, none⟩ = some (.int .i64 (x.2.1 : Int)) ∧ X.val.cell? ⟨bx, 2, none⟩ = some (.int .i64 (x.2.2 : Int)) ∧
          Calls Tryd.prog 26 #[.pointer (some ⟨c, 0, none⟩), .int .i64 p, .int .i64 n3, .int .i64 (x.2.1 : Int), .int .i64 (x.2.2 : Int)] X.val fun e w' => e = .returned (.bool (fitB C p n3 x.2.1 x.2.2)) ∧ Below X.val.heap.size X.val w') := Lib.hid (fun X =>
        ⟨(X.bel.cell (p := ⟨bc, 0, none⟩) (lt_cell v1)).trans v1, (X.bel.cell (p := ⟨pb, 0, none⟩) (lt_cell v2)).trans v2, (X.bel.cell (p := ⟨c, 3, none⟩) (lt_cell v3)).trans v3, (X.bel.cell (p := ⟨b, off + p * 3 + 1, none⟩) (lt_cell v4)).trans v4, (X.bel.cell (p := ⟨bx, 1, none⟩) (lt_cell v6)).trans v6, (X.bel.cell (p := ⟨bx, 2, none⟩) (lt_cell v7)).trans v7,
          fits_any G (some ⟨b, off, none⟩) Al As np cp nl cl ns cs Ai ni ci inp C S B c m p n3 x.2.1 x.2.2 ⟨by simp only; have := hk.p; omega, by simp only; omega, by simp only; omega⟩ hxj X.val (hst5.ch.bel (fun b q => (hst5.lt b q).1) X.bel)⟩)
      have HPR : Hid (prT C G inp tr x p = if fitB C p n3 x.2.1 x.2.2 then (rowsT C inp (allOf tr) (rtN G p) x.2.1 x.2.2).map (Tr.node (p : Int) 0) else []) := Lib.hid (by unfold prT; rw [e1])
      have HV := Lib.hid (And.intro v1 (And.intro v2 (And.intro v5 (And.intro v6 (And.intro v7 v8)))))
      have HP := Lib.hid hp; have HW5 := Lib.hid hW5; have HB5b := Lib.hid hb5; have HST5 := Lib.hid hst5; have HE1 := Lib.hid e1; have HPB := Lib.hid hpb; have HZ5 := Lib.hid hz5
      clear hp hb5 hz5 k5 hst5 v1 v2 v3 v4 v5 v6 v7 v8 e1 e4 w0 w1 zp0 hrc hrW hrb zc1 zx0 zx1 zx2 zc11 hW5
      cases ef : fitB C p n3 x.2.1 x.2.2 with
      | false =>
        as_aux_lemma =>
          rw [ef] at HB5 HPR
          clear ef
          go_wp2_with fail
          rw [← HW5.out, ← hpb]
          clear hpb
          refine wp_region_cls (B := W5.heap.size) (w0 := W5) (by kernel_rfl) (by kernel_rfl) (Below.refl _ _) ?_
          have z0 := fun X => (HB5.out X).1
          have z1 := fun X => (HB5.out X).2.1
          have z2 := fun X => (HB5.out X).2.2.1
          have z3 := fun X => (HB5.out X).2.2.2.1
          have z4 := fun X => (HB5.out X).2.2.2.2.1
          have z5 := fun X => (HB5.out X).2.2.2.2.2.1
          repeat (first | go_big_quiet_skip | (go_big_quiet_want; go_big_quiet_op; go_big_quiet_on))
          go_big_quiet_want
          go_big_quiet_op
          refine ⟨.bool false, fun X => X.call (Nat.le_refl _) (HB5.out X).2.2.2.2.2.2, ?_⟩
          go_big_quiet_on
          repeat (first | go_big_quiet_skip | (go_big_quiet_want; go_big_quiet_op; go_big_quiet_on))
          refine wpQuiet_nil ?_
          intro Y
          have HYB := Lib.hid (HB5b.out.trans (Y.bel.mono HB5b.out.size))
          generalize Y.val = W6 at *
          clear z0 z1 z2 z3 z4 z5 HB5
          go_wp2_with fail
          refine Handed.intro (ps.length - (k + 1)) (by omega) (hKJ _ _ _ ?_)
          rw [HIV.out]
          refine ⟨k + 1, Ds, X', R', rfl, HI0.out.skip HP.out SJ.out HYB.out (by rw [HPR.out]; rfl), ?_⟩
          (repeat apply Exists.intro)
          rfl
      | true =>
        rw [ef] at HB5 HPR
        clear ef
        go_wp2_with fail
        rw [← HW5.out, ← hpb]
        clear hpb
        refine wp_region_cls (B := W5.heap.size) (w0 := W5) (by kernel_rfl) (by kernel_rfl) (Below.refl _ _) ?_
        have z0 := fun X => (HB5.out X).1
        have z1 := fun X => (HB5.out X).2.1
        have z2 := fun X => (HB5.out X).2.2.1
        have z3 := fun X => (HB5.out X).2.2.2.1
        have z4 := fun X => (HB5.out X).2.2.2.2.1
        have z5 := fun X => (HB5.out X).2.2.2.2.2.1
        repeat (first | go_big_quiet_skip | (go_big_quiet_want; go_big_quiet_op; go_big_quiet_on))
        go_big_quiet_want
        go_big_quiet_op
        refine ⟨.bool true, fun X => X.call (Nat.le_refl _) (HB5.out X).2.2.2.2.2.2, ?_⟩
        go_big_quiet_on
        repeat (first | go_big_quiet_skip | (go_big_quiet_want; go_big_quiet_op; go_big_quiet_on))
        refine wpQuiet_nil ?_
        intro Y
        have HYB := Lib.hid Y.bel
        generalize Y.val = W6 at *
        clear z0 z1 z2 z3 z4 z5 HB5
        obtain ⟨w7, hw7⟩ : ∃ w7, w7 = W6.drew := ⟨_, rfl⟩
        have hb57 : Below W5.heap.size W5 w7 := by rw [hw7]; exact HYB.out.drew
        have hb7 : Below wr.heap.size wr w7 := HB5b.out.trans (hb57.mono HB5b.out.size)
        obtain ⟨v1, v2, v5, v6, v7, v8⟩ := HV.out
        have t1 := (hb57.cell (p := ⟨bc, 0, none⟩) (lt_cell v1)).trans v1
        have t2 := (hb57.cell (p := ⟨pb, 0, none⟩) (lt_cell v2)).trans v2
        have t5 := (hb57.cell (p := ⟨bx, 0, none⟩) (lt_cell v5)).trans v5
        have t6 := (hb57.cell (p := ⟨bx, 1, none⟩) (lt_cell v6)).trans v6
        have t7 := (hb57.cell (p := ⟨bx, 2, none⟩) (lt_cell v7)).trans v7
        have t8 := (hb57.cell (p := ⟨c, 11, none⟩) (lt_cell v8)).trans v8
        obtain ⟨w8, hrun, hop8, hg8⟩ := Opn.put (HI0.out.op.same (hb7.block m HI0.out.g.sep.ms)) HXK.out HNO.out hO
        obtain ⟨hf1, hf2⟩ := HFX.out
        have hms := HI0.out.g.sep.ms
        have hpm : pb ≠ m := by have := HPB.out; omega
        have far : ∀ (q : Addr) (v : Value), w7.cell? q = some v → q.block ≠ m → w8.cell? q = some v := fun q v h1 h2 => (World.cell?_of_block (a := q) (hg8.block q.block (lt_cellA h1) (fun e => h2 (by cases e; rfl)))).trans h1
        have s1 := far ⟨bc, 0, none⟩ _ t1 hf1.2.2
        have s2 := far ⟨pb, 0, none⟩ _ t2 hpm
        have s6 := far ⟨bx, 1, none⟩ _ t6 hf2.2.2
        have s7 := far ⟨bx, 2, none⟩ _ t7 hf2.2.2
        have k78 : Kp (fun k => k = m) wr w8 := (Kp.of hb7).trans ⟨hg8.os, hg8.tape, hg8.output, hg8.size, fun k hk hn => hg8.block k hk (fun e => hn (by cases e; rfl))⟩
        have k58 : Kp (fun k => k = m) W5 w8 := (Kp.of hb57).trans ⟨hg8.os, hg8.tape, hg8.output, hg8.size, fun k hk hn => hg8.block k hk (fun e => hn (by cases e; rfl))⟩
        have HOP8 := Lib.hid hop8; have K78 := Lib.hid k78; have HK58 := Lib.hid k58
        unfold kV at hrun
        clear far hop8 k78 k58 hg8 hb57 hb7 hf1 hf2 v1 v2 v5 v6 v7 v8 HYB
        go_wp2_with fail
        refine wp_region_still_tail 5 (by kernel_rfl) (by kernel_rfl) ?_
        simp only [List.take_succ_cons, List.take_zero, List.drop_succ_cons, List.drop_zero]
        change wpStill _ _ W6.drew (fun a' => wpList _ _ _ _ a' W6.drew) _ _
        rw [← hw7]
        clear hw7
        refine wpStill_of_quiet _ _ ?_
        repeat (first | go_big_quiet_skip | (go_big_quiet_want; go_big_quiet_op; go_big_quiet_on))
        refine wpQuiet_nil ?_
        go_wp2_with fail
        refine (mkRows_any c p 0 x.2.1 x.2.2 w8).mono ?_
        rintro e W4 ⟨rfl, hb84, hz4, c1, c2, c3', c4, c5⟩
        have HC := Lib.hid (And.intro c1 (And.intro c2 (And.intro c3' (And.intro c4 c5)))); have HB84 := Lib.hid hb84; have HZ4 := Lib.hid hz4
        clear c1 c2 c3' c4 c5 hb84 hz4 s1 s2 s6 s7 t1 t2 t5 t6 t7 t8 hrun
        go_wp2_with fail
        have hWz : W4.heap.size = w8.heap.size + 5 := HZ4.out
        have HK54 : Hid (Kp (fun k => k = m) W5 W4) := Lib.hid (HK58.out.trans ((Kp.of HB84.out).mono fun _ _ q => q))
        have kr4 : Kp (fun k => k = m) wr W4 := K78.out.trans ((Kp.of HB84.out).mono fun _ _ q => q)
        have hWw : W.heap.size ≤ W4.heap.size := Nat.le_trans HI0.out.g.kp.size kr4.size
        have sp4 := HI0.out.g.sep.keep (W' := W4) kr4.size
        have hop4 : Opn m (x :: O) W4 := HOP8.out.same (HB84.out.block m (Nat.lt_of_lt_of_le HI0.out.g.sep.ms K78.out.size))
        have hst4 := HSTR.out.own kr4 (fun b q => .inr q)
        obtain ⟨hf1, hf2⟩ := HFX.out
        obtain ⟨c1, c2, c3', c4, c5⟩ := HC.out
        have hpre : ∀ Y Wy, (∀ k, Y k → X' k ∨ W4.heap.size ≤ k) → Below W4.heap.size W4 Wy → PreR m S B c G (some ⟨b, off, none⟩) Al As np cp nl cl ns cs Ai ni ci inp C w8.heap.size (w8.heap.size + 1) (w8.heap.size + 2) (w8.heap.size + 3) (w8.heap.size + 4) p 0 x.2.1 x.2.2 () Y R' Wy := fun Y Wy hY hb => by
          have hsx := HI0.out.g.sep.xs
          have hms := HI0.out.g.sep.ms
          have h78 := K78.out.size
          have fx : ∀ b, w8.heap.size ≤ b → b < W4.heap.size → Fixd m Y Wy b := fun b h1 h2 => ⟨by have := hb.size; omega, fun e => by rcases hY b e with e | e; have := hsx b e; omega; omega, by omega⟩
          exact ⟨hst4.more hb (Nat.le_refl _) hY, ⟨fx _ (by omega) (by omega), fx _ (by omega) (by omega), fx _ (by omega) (by omega), fx _ (by omega) (by omega), fx _ (by omega) (by omega)⟩,
            (hb.cell (p := ⟨w8.heap.size, 0, none⟩) (by show w8.heap.size < W4.heap.size; omega)).trans c1, (hb.cell (p := ⟨w8.heap.size + 1, 0, none⟩) (by show w8.heap.size + 1 < W4.heap.size; omega)).trans c2, (hb.cell (p := ⟨w8.heap.size + 2, 0, none⟩) (by show w8.heap.size + 2 < W4.heap.size; omega)).trans c3',
            (hb.cell (p := ⟨w8.heap.size + 3, 0, none⟩) (by show w8.heap.size + 3 < W4.heap.size; omega)).trans c4, (hb.cell (p := ⟨w8.heap.size + 4, 0, none⟩) (by show w8.heap.size + 4 < W4.heap.size; omega)).trans c5⟩
        -- what is read in the rounds
        have fxr : ∀ b, Fixd m X W b → b < wr.heap.size ∧ ¬ X' b ∧ b ≠ m := fun b hb => (hb.gro HI0.out.g).1
        have hpbX : ¬ X' pb := fun e => by have := HI0.out.g.sep.xs pb e; have := HPB.out; omega
        have hpbm : pb ≠ m := by have := HPB.out; have := HI0.out.g.sep.ms; omega
        have HCZ : Hid (∀ X2 R2 W2, Gro m X' R' W4 X2 R2 W2 → W2.cell? ⟨bc, 0, none⟩ = some (.pointer (some ⟨c, 0, none⟩)) ∧ W2.cell? ⟨pb, 0, none⟩ = some (.int .i64 (p : Int)) ∧ W2.cell? ⟨bx, 0, none⟩ = some (.int .i64 (x.1 : Int)) ∧ W2.cell? ⟨bx, 1, none⟩ = some (.int .i64 (x.2.1 : Int)) ∧ W2.cell? ⟨bx, 2, none⟩ = some (.int .i64 (x.2.2 : Int)) ∧ W2.cell? ⟨c, 11, none⟩ = some (.map (some m)) ∧
            W2.cell? ⟨W.heap.size, 0, none⟩ = some (.func (.yield l) #[] #[])) := Lib.hid (fun X2 R2 W2 g => by
          have hw4 : ∀ (q : Addr) (v : Value), W5.cell? q = some v → q.block < W5.heap.size → ¬ X' q.block → q.block ≠ m → W2.cell? q = some v := fun q v h1 h2 h3 h4 => by
            have e5 : W4.heap[q.block]? = W5.heap[q.block]? := HK54.out.block q.block h2 h4
            have h6 := HK54.out.size
            exact (World.cell?_of_block (a := q) ((g.same (by omega) h3 h4).trans e5)).trans h1
          obtain ⟨v1, v2, v5, v6, v7, v8⟩ := HV.out
          have hcS := (HST.out.gro HI0.out.g).lt c HST.out.ch.cS
          have h5 := HB5b.out.size
          exact ⟨hw4 ⟨bc, 0, none⟩ _ v1 (lt_cell v1) (fxr _ hf1).2.1 hf1.2.2, hw4 ⟨pb, 0, none⟩ _ v2 (lt_cell v2) hpbX hpbm, hw4 ⟨bx, 0, none⟩ _ v5 (lt_cell v5) (fxr _ hf2).2.1 hf2.2.2, hw4 ⟨bx, 1, none⟩ _ v6 (lt_cell v6) (fxr _ hf2).2.1 hf2.2.2, hw4 ⟨bx, 2, none⟩ _ v7 (lt_cell v7) (fxr _ hf2).2.1 hf2.2.2, hw4 ⟨c, 11, none⟩ _ v8 (lt_cell v8) hcS.2.1 hcS.2.2,
            hw4 ⟨W.heap.size, 0, none⟩ _ ((HB5b.out.cell (p := ⟨W.heap.size, 0, none⟩) HI0.out.yb.lt).trans HI0.out.yc) (Nat.lt_of_lt_of_le HI0.out.yb.lt h5) HI0.out.yb.x HI0.out.yb.m⟩)
        obtain ⟨I, hI⟩ : ∃ I : Inv (List (List Tr)), I = fun (pre : List (List Tr)) X2 R2 W2 => Gro m X' R' W4 X2 R2 W2 ∧ J ((ps.take k).flatMap (prT C G inp tr x) ++ pre.map (Tr.node (p : Int) 0)) X2 R2 W2 := ⟨_, rfl⟩
        obtain ⟨Ix, hIx⟩ : ∃ Ix : Inv Code, Ix = fun c X2 R2 W2 => c = .ret ∧ Gro m X' R' W4 X2 R2 W2 ∧ Jx () X2 R2 W2 := ⟨_, rfl⟩
        have sI : Stab m W4.heap.size I := by rw [hI]; exact stab_and (stab_gro (Nat.le_refl _)) (stab_at SJ.out hWw (fun (pre : List (List Tr)) => (ps.take k).flatMap (prT C G inp tr x) ++ pre.map (Tr.node (p : Int) 0)))
        have sIx : Stab m W4.heap.size Ix := by rw [hIx]; exact stab_and (stab_pure _) (stab_and (stab_gro (Nat.le_refl _)) (stab_at SJX.out hWw (fun _ => ())))
        have hi0 : I [] X' R' W4 := by
          rw [hI]
          refine ⟨Gro.refl sp4, ?_⟩
          rw [List.map_nil, List.append_nil]
          exact SJ.out.k HI0.out.jl HI0.out.g.sep (kr4.mono fun _ _ q => .inr q)
        have HII := Lib.hid hI; have HIX := Lib.hid hIx; have SI := Lib.hid sI; have SIX := Lib.hid sIx; have HI00 := Lib.hid hi0; have SP4 := Lib.hid sp4; have HOP4 := Lib.hid hop4; have KR4 := Lib.hid kr4; have HPRE := Lib.hid hpre; have HWW := Lib.hid hWw
        clear hI hIx sI sIx hi0 sp4 hop4 kr4 hpre fxr hpbX hst4 c1 c2 c3' c4 c5 hf1 hf2 hWz hpbm
        refine range_wp (m := m) (Op := Opn m (x :: O)) (OpX := OpnX m) (V := VL ((rtN G p).length - 0)) (X := X') (R := R') rfl (enters_of Tryd.func37 (by kernel_rfl) rfl) rfl (HR.out p hpn w8.heap.size (w8.heap.size + 1) (w8.heap.size + 2) (w8.heap.size + 3) (w8.heap.size + 4)) SP4.out (Opn_keep m _) (OpnX_keep m) (VL_keep _) HOP4.out HPRE.out I Ix SI.out SIX.out HI00.out ?body ?done ?stop
        case body =>
          intro l2 pre X2 R2 R3 ks v Wa hr
          obtain ⟨hkl, A6, ca, rfl, q1, q2, q3⟩ := hr.v
          have HKL := Lib.hid hkl
          clear hr q3 hkl
          gi_wp2_with fail
          refine ⟨Kp.refl _ _, fun W2 hk2 hr2 => ?_⟩
          have hi2 := hr2.i
          rw [HII.out] at hi2
          obtain ⟨g2, hj2⟩ := hi2
          obtain ⟨d1, d2, d3, d4, d5, d6, d7⟩ := HCZ.out X2 R2 W2 g2
          obtain ⟨w3, hw3⟩ : ∃ w3, w3 = W2.drew := ⟨_, rfl⟩
          have k23 : Kp (fun _ => False) W2 w3 := by rw [hw3]; exact (Kp.refl _ _).draw
          have cel3 : ∀ q, w3.cell? q = W2.cell? q := by intro q; rw [hw3]; rfl
          have d1' := (cel3 _).trans d1
          have d3' := (cel3 _).trans d3
          have d4' := (cel3 _).trans d4
          have d5' := (cel3 _).trans d5
          have d6' := (cel3 _).trans d6
          obtain ⟨w4, hdel, hopn, hgd⟩ := Opn.del (hr2.op.same (k23.block m hr2.s.ms (fun q => q))) HXK.out HNO.out 0
          have k24 : Kp (fun k => k = m) W2 w4 := (k23.mono fun _ _ q => q.elim).trans ⟨hgd.os, hgd.tape, hgd.output, hgd.size, fun k hk hn => hgd.block k hk (fun e => hn (by cases e; rfl))⟩
          have hcm : c ≠ m := (HST.out.lt c HST.out.ch.cS).2.2
          obtain ⟨hf1, hf2⟩ := HFX.out
          have hpbm : pb ≠ m := by have := HPB.out; have := HI0.out.g.sep.ms; omega
          have far : ∀ (q : Addr) (v : Value), W2.cell? q = some v → q.block ≠ m → w4.cell? q = some v := fun q v h1 h2 => (World.cell?_of_block (a := q) (k24.block q.block (lt_cellA h1) h2)).trans h1
          have s2 := far ⟨pb, 0, none⟩ _ d2 hpbm
          have s7 := far ⟨W.heap.size, 0, none⟩ _ d7 HI0.out.yb.m
          obtain ⟨w5, hw5⟩ : ∃ w5, w5 = w4.alloc (.cells #[.int .i64 (p : Int), .int .i64 0, .slice A6 ks.length ca] 80) := ⟨_, rfl⟩
          have hb45 : Below w4.heap.size w4 w5 := by rw [hw5]; exact (Below.refl _ _).alloc (Nat.le_refl _) _
          have hz5 : w5.heap.size = w4.heap.size + 1 := by rw [hw5]; simp
          have k25 : Kp (fun k => k = m) W2 w5 := k24.trans ((Kp.of hb45).mono fun _ _ q => q)
          obtain ⟨R8, hR8⟩ : ∃ R8 : Nat → Prop, R8 = fun k => R3 k ∨ k = w4.heap.size := ⟨_, rfl⟩
          have h24 := k24.size
          have s58 : Sep m X2 R8 w5 := hr2.s.more (fun k q => by
            rw [hR8] at q
            rcases q with q | q
            · exact .inl q
            · exact .inr ⟨by omega, fun e => by have := hr2.s.xs k e; omega, fun e => by have := hr2.s.ms; omega⟩) k25.size
          have hrr8 : ∀ k, R2 k → R8 k := fun k q => by rw [hR8]; exact .inl (hr2.rr k q)
          have hW42 : W4.heap.size ≤ W2.heap.size := g2.kp.size
          have hrn8 : ∀ k, R8 k → R2 k ∨ W4.heap.size ≤ k := fun k q => by
            rw [hR8] at q
            rcases q with q | q
            · exact hr2.rn k q
            · exact .inr (by omega)
          have hv2 := VL_keep _ W2 w5 R3 _ _ hr2.v (fun k q => k25.block k (hr2.s.rs k q) (fun e => hr2.s.rm (e ▸ q)))
          have hv8 : VT w5 R8 (.pointer (some ⟨w4.heap.size, 0, none⟩)) (.node (p : Int) 0 ks) := by
            obtain ⟨_, A7, c7, e7, r1, r2, r3⟩ := hv2
            simp only [Value.slice.injEq] at e7
            obtain ⟨rfl, -, rfl⟩ := e7
            unfold VT
            rw [TrIn]
            refine ⟨w4.heap.size, A6, ca, rfl, by rw [hR8]; exact .inr rfl, ?_, ?_, ?_, r1, r2, fun h0 => ?_⟩
            · rw [hw5]; exact cell_newA w4 [.int .i64 (p : Int), .int .i64 0, .slice A6 ks.length ca] _ _ 0 _ rfl rfl
            · rw [hw5]; exact cell_newA w4 [.int .i64 (p : Int), .int .i64 0, .slice A6 ks.length ca] _ _ 1 _ rfl rfl
            · rw [hw5]; exact cell_newA w4 [.int .i64 (p : Int), .int .i64 0, .slice A6 ks.length ca] _ _ 2 _ rfl rfl
            · obtain ⟨kb, off, f1, f2, f3⟩ := r3 h0
              exact ⟨kb, off, f1, by rw [hR8]; exact .inl f2, TrsIn.keep (fun _ _ => rfl) (fun k q => by rw [hR8]; exact .inl q) f2 f3⟩
          have hj5 := (stab_at SJ.out (Nat.le_refl _) (fun (u : Unit) => (ps.take k).flatMap (prT C G inp tr x) ++ pre.map (Tr.node (p : Int) 0))).k (s := ()) hj2 (hr2.s.more (W1 := W2) (R1 := R2) (fun k q => .inl (hr2.rr k q)) (Nat.le_refl _)) (k25.mono fun _ _ q => .inr q)
          have hop5 := hopn.same (hb45.block m (by have := hr2.s.ms; omega))
          have hpf5 : ((ps.take k).flatMap (prT C G inp tr x) ++ pre.map (Tr.node (p : Int) 0) ++ [.node (p : Int) 0 ks]) <+: ps.flatMap (prT C G inp tr x) := by
            rw [List.append_assoc]
            refine flat_pf (take_pf HP.out) ?_
            rw [HPR.out]
            simp only [if_true]
            have h2 := hr2.pf
            rw [List.drop_zero] at h2
            exact map_pf (Tr.node (p : Int) 0) h2
          have hy5 := HY.out ((ps.take k).flatMap (prT C G inp tr x) ++ pre.map (Tr.node (p : Int) 0)) X2 R2 R8 (.node (p : Int) 0 ks) _ w5 hpf5 hj5 s58 hrr8 (fun k q => (hrn8 k q).elim .inl (fun q => .inr (Nat.le_trans HWW.out q))) hop5 hv8
          have HG9 : Hid (∀ X5 R5 W9, Gro m X2 R8 w5 X5 R5 W9 → Gro m X' R' W4 X5 R5 W9 ∧ Gro m X2 R3 W2 X5 R5 W9) := Lib.hid (fun X5 R5 W9 g => ⟨g2.step (k25.mono fun _ _ q => .inr q) hrr8 hrn8 g, (Gro.refl hr2.s).step (k25.mono fun _ _ q => .inr q) (fun k q => by rw [hR8]; exact .inl q) (fun k q => by rw [hR8] at q; rcases q with q | q; exact .inl q; exact .inr (by omega)) g⟩)
          obtain ⟨fn, tmps, assign, body, hy1, hRR⟩ := hy5
          have HRR := Lib.hid hRR; have HW5n := Lib.hid hw5
          rw [hw5] at hy1
          unfold kV at hdel
          clear hRR hop5 hj5 hv8 hv2 hrn8 hrr8 s58 hR8 k25 hb45 hw5 hz5 far k24 hgd hopn k23 cel3 hr2 hk2 g2 hj2 d1 d2 d3 d4 d5 d6 d7 h24 hW42 hf1 hf2 hpbm
          gi_wp2_with fail
          refine wpIn_region_tail 5 (by kernel_rfl) (by kernel_rfl) (by kernel_rfl) ?_
          simp only [List.take_succ_cons, List.take_zero, List.drop_succ_cons, List.drop_zero]
          change wpStill _ _ W2.drew (fun a' => wpList _ _ _ _ a' W2.drew) _ _
          rw [← hw3]
          clear hw3
          refine wpStill_of_quiet _ _ ?_
          repeat (first | go_big_quiet_skip | (go_big_quiet_want; go_big_quiet_op; go_big_quiet_on))
          refine wpQuiet_nil ?_
          go_wp2_with fail
          refine ⟨rfl, ?_⟩
          clear d1' d3' d4' d5' d6' hdel
          gi_wp2_with fail
          rw [← HW5n.out]
          refine (roundIn_in HRR.out).mono ?_
          rintro e W9 ⟨X5, R5, g9, (⟨rfl, hop9, hj9⟩ | ⟨rfl, hop9, hj9⟩)⟩
          · obtain ⟨G9, G92⟩ := HG9.out X5 R5 W9 g9
            obtain ⟨d1, d2, d3, d4, d5, d6, d7⟩ := HCZ.out X5 R5 W9 G9
            obtain ⟨w10, hw10⟩ : ∃ w10, w10 = W9.drew := ⟨_, rfl⟩
            have k910 : Kp (fun _ => False) W9 w10 := by rw [hw10]; exact (Kp.refl _ _).draw
            have cel : ∀ q, w10.cell? q = W9.cell? q := by intro q; rw [hw10]; rfl
            have d1' := (cel _).trans d1
            have d3' := (cel _).trans d3
            have d4' := (cel _).trans d4
            have d5' := (cel _).trans d5
            have d6' := (cel _).trans d6
            obtain ⟨w11, hput, hopp, hgp⟩ := Opn.put (hop9.same (k910.block m g9.sep.ms (fun q => q))) HXK.out HNO.out hO
            have k911 : Kp (fun k => k = m) W9 w11 := (k910.mono fun _ _ q => q.elim).trans ⟨hgp.os, hgp.tape, hgp.output, hgp.size, fun k hk hn => hgp.block k hk (fun e => hn (by cases e; rfl))⟩
            have HFIN : Hid (bPost m (Opn m (x :: O)) (OpnX m) I Ix pre ks X2 R3 W2 .normal { tmps := #[], defers := [] } w11) := Lib.hid ⟨X5, R5, G92.own (k911.mono fun _ _ q => .inr q), hopp, by
              rw [HII.out]
              refine ⟨G9.own (k911.mono fun _ _ q => .inr q), ?_⟩
              rw [List.map_append, ← List.append_assoc]
              exact SJ.out.k hj9 G9.sep (k911.mono fun _ _ q => .inr q)⟩
            unfold kV at hput
            clear k911 hgp hopp cel k910 d1 d2 d3 d4 d5 d6 d7 G9 G92 g9 hop9 hj9
            gi_wp2_with fail
            refine wpIn_region_tail 5 (by kernel_rfl) (by kernel_rfl) (by kernel_rfl) ?_
            simp only [List.take_succ_cons, List.take_zero, List.drop_succ_cons, List.drop_zero]
            change wpStill _ _ W9.drew (fun a' => wpList _ _ _ _ a' W9.drew) _ _
            rw [← hw10]
            clear hw10
            refine wpStill_of_quiet _ _ ?_
            repeat (first | go_big_quiet_skip | (go_big_quiet_want; go_big_quiet_op; go_big_quiet_on))
            refine wpQuiet_nil ?_
            go_wp2_with fail
            refine ⟨rfl, ?_⟩
            gi_wp2_with fail
            exact HFIN.out
          · obtain ⟨G9, G92⟩ := HG9.out X5 R5 W9 g9
            obtain ⟨d1, d2, d3, d4, d5, d6, d7⟩ := HCZ.out X5 R5 W9 G9
            obtain ⟨w10, hw10⟩ : ∃ w10, w10 = W9.drew := ⟨_, rfl⟩
            have k910 : Kp (fun _ => False) W9 w10 := by rw [hw10]; exact (Kp.refl _ _).draw
            have cel : ∀ q, w10.cell? q = W9.cell? q := by intro q; rw [hw10]; rfl
            have d1' := (cel _).trans d1
            have d3' := (cel _).trans d3
            have d4' := (cel _).trans d4
            have d5' := (cel _).trans d5
            have d6' := (cel _).trans d6
            obtain ⟨w11, hput, hgp, hdl⟩ := OpnX.put (hop9.same (k910.block m g9.sep.ms (fun q => q))) HXK.out
            have k911 : Kp (fun k => k = m) W9 w11 := (k910.mono fun _ _ q => q.elim).trans ⟨hgp.os, hgp.tape, hgp.output, hgp.size, fun k hk hn => hgp.block k hk (fun e => hn (by cases e; rfl))⟩
            obtain ⟨w12, hw12⟩ : ∃ w12, w12 = w11.drew := ⟨_, rfl⟩
            have k1112 : Kp (fun _ => False) w11 w12 := by rw [hw12]; exact (Kp.refl _ _).draw
            have k912 : Kp (fun k => k = m) W9 w12 := k911.trans (k1112.mono fun _ _ q => q.elim)
            have hcm : c ≠ m := (HST.out.lt c HST.out.ch.cS).2.2
            obtain ⟨hf1, hf2⟩ := HFX.out
            have far : ∀ (q : Addr) (v : Value), W9.cell? q = some v → q.block ≠ m → w12.cell? q = some v := fun q v h1 h2 => (World.cell?_of_block (a := q) (k912.block q.block (lt_cellA h1) h2)).trans h1
            have f1' := far ⟨bc, 0, none⟩ _ d1 hf1.2.2
            have f3' := far ⟨bx, 0, none⟩ _ d3 hf2.2.2
            have f4' := far ⟨bx, 1, none⟩ _ d4 hf2.2.2
            have f5' := far ⟨bx, 2, none⟩ _ d5 hf2.2.2
            have f6' := far ⟨c, 11, none⟩ _ d6 hcm
            obtain ⟨w13, hdel2, hopx, hgx⟩ := hdl w12 (k1112.block m (Nat.lt_of_lt_of_le g9.sep.ms k911.size) (fun q => q)) 0
            have k913 : Kp (fun k => k = m) W9 w13 := k912.trans ⟨hgx.os, hgx.tape, hgx.output, hgx.size, fun k hk hn => hgx.block k hk (fun e => hn (by cases e; rfl))⟩
            have HFIN : Hid (bPost m (Opn m (x :: O)) (OpnX m) I Ix pre ks X2 R3 W2 .ret { tmps := #[], defers := [] } w13) := Lib.hid ⟨X5, R5, G92.own (k913.mono fun _ _ q => .inr q), hopx, by
              rw [HIX.out]
              exact ⟨rfl, G9.own (k913.mono fun _ _ q => .inr q), SJX.out.k hj9 G9.sep (k913.mono fun _ _ q => .inr q)⟩⟩
            unfold kV at hput hdel2
            clear k913 hgx hopx hdl k912 k1112 k911 hgp cel k910 d1 d2 d3 d4 d5 d6 d7 G9 G92 g9 hop9 hj9 far hf1 hf2
            gi_wp2_with fail
            refine wpIn_region_tail 5 (by kernel_rfl) (by kernel_rfl) (by kernel_rfl) ?_
            simp only [List.take_succ_cons, List.take_zero, List.drop_succ_cons, List.drop_zero]
            change wpStill _ _ W9.drew (fun a' => wpList _ _ _ _ a' W9.drew) _ _
            rw [← hw10]
            clear hw10
            refine wpStill_of_quiet _ _ ?_
            repeat (first | go_big_quiet_skip | (go_big_quiet_want; go_big_quiet_op; go_big_quiet_on))
            refine wpQuiet_nil ?_
            go_wp2_with fail
            refine ⟨rfl, ?_⟩
            clear hput d1' d3' d4' d5' d6'
            gi_wp2_with fail
            refine wpIn_region_tail 5 (by kernel_rfl) (by kernel_rfl) (by kernel_rfl) ?_
            simp only [List.take_succ_cons, List.take_zero, List.drop_succ_cons, List.drop_zero]
            change wpStill _ _ w11.drew (fun a' => wpList _ _ _ _ a' w11.drew) _ _
            rw [← hw12]
            clear hw12
            refine wpStill_of_quiet _ _ ?_
            repeat (first | go_big_quiet_skip | (go_big_quiet_want; go_big_quiet_op; go_big_quiet_on))
            refine wpQuiet_nil ?_
            go_wp2_with fail
            refine ⟨rfl, ?_⟩
            gi_wp2_with fail
            exact HFIN.out
        case done =>
          intro D X5 R5 W9 hD hDh hDx hDr g5 op5 i5
          rw [HII.out] at i5
          obtain ⟨g6, hj5⟩ := i5
          obtain ⟨d1, d2, d3, d4, d5, d6, d7⟩ := HCZ.out X5 R5 W9 g5
          obtain ⟨w10, hw10⟩ : ∃ w10, w10 = W9.drew := ⟨_, rfl⟩
          have k910 : Kp (fun _ => False) W9 w10 := by rw [hw10]; exact (Kp.refl _ _).draw
          have cel : ∀ q, w10.cell? q = W9.cell? q := by intro q; rw [hw10]; rfl
          have d1' := (cel _).trans d1
          have d3' := (cel _).trans d3
          have d4' := (cel _).trans d4
          have d5' := (cel _).trans d5
          have d6' := (cel _).trans d6
          obtain ⟨w11, hdel, hopn, hgd⟩ := Opn.del (op5.same (k910.block m g5.sep.ms (fun q => q))) HXK.out HNO.out 0
          have k911 : Kp (fun k => k = m) W9 w11 := (k910.mono fun _ _ q => q.elim).trans ⟨hgd.os, hgd.tape, hgd.output, hgd.size, fun k hk hn => hgd.block k hk (fun e => hn (by cases e; rfl))⟩
          have hj6 : J ((ps.take k).flatMap (prT C G inp tr x) ++ prT C G inp tr x p) X5 R5 W9 := by
            have h := HPR.out
            simp only [if_true] at h
            rw [h]
            rw [List.drop_zero] at hj5
            exact hj5
          have HN := Lib.hid (HI0.out.next HP.out SJ.out KR4.out g5 hD hDh hDx hDr k911 hj6 hopn)
          unfold kV at hdel
          clear hj6 k911 hgd hopn cel k910 d1 d2 d3 d4 d5 d6 d7 hj5 g6 g5 op5 hD hDh hDx hDr
          go_wp2_with fail
          refine wp_region_still_tail 5 (by kernel_rfl) (by kernel_rfl) ?_
          simp only [List.take_succ_cons, List.take_zero, List.drop_succ_cons, List.drop_zero]
          change wpStill _ _ W9.drew (fun a' => wpList _ _ _ _ a' W9.drew) _ _
          rw [← hw10]
          clear hw10
          refine wpStill_of_quiet _ _ ?_
          repeat (first | go_big_quiet_skip | (go_big_quiet_want; go_big_quiet_op; go_big_quiet_on))
          refine wpQuiet_nil ?_
          go_wp2_with fail
          refine Handed.intro (ps.length - (k + 1)) (by omega) (hKJ _ _ _ ?_)
          rw [HIV.out]
          refine ⟨k + 1, D :: Ds, X5, R5, rfl, HN.out, ?_⟩
          (repeat apply Exists.intro)
          rfl
        case stop =>
          intro D c5 X5 R5 W9 hD hDh hDx hDr g5 op5 i5
          rw [HIX.out] at i5
          obtain ⟨rfl, g6, hj⟩ := i5
          have G5 : Gro m X R W X5 R5 W9 := HI0.out.g.step (KR4.out.mono fun _ _ q => .inr q) (fun _ q => q) (fun _ q => .inl q) g5
          have hW4 := KR4.out.size
          have mk : ∀ b, Mine m X' R' wr b → Mine m X5 R5 W9 b ∧ W9.heap[b]? = wr.heap[b]? := fun b hb => ⟨(hb.keep hW4).gro g5, (g5.same (Nat.lt_of_lt_of_le hb.lt hW4) hb.x hb.m).trans (KR4.out.block b hb.lt hb.m)⟩
          have hds : ∀ D' ∈ D :: Ds, Mine m X5 R5 W9 D' ∧ W9.heap[D']? = some (.deferred (some [])) ∧ W.heap.size ≤ D' := fun D' q => by
            rcases List.mem_cons.1 q with rfl | q
            · exact ⟨⟨(Array.getElem?_eq_some_iff.1 hDh).1, hDx, hDr, fun e => by have := HI0.out.g.sep.ms; omega⟩, hDh, by have := HWW.out; omega⟩
            · obtain ⟨q1, q2, q3⟩ := HI0.out.ds D' q
              obtain ⟨q4, q5⟩ := mk D' q1
              exact ⟨q4, q5.trans q2, q3⟩
          have hnd : (D :: Ds).Nodup := List.nodup_cons.2 ⟨fun q => by have := (HI0.out.ds D q).1.lt; omega, HI0.out.nd⟩
          have HFIN := Lib.hid (And.intro G5 (And.intro op5 (And.intro hds (And.intro hnd hj))))
          clear G5 mk hds hnd hj g6 g5 op5 hD hDh hDx hDr hW4
          go_wp2_with fail
          exact trees_fin (Ds := D :: Ds) rfl HFIN.out.1 SJ.out SJX.out HFIN.out.2.2.2.1 HFIN.out.2.2.1 (.inr ⟨HFIN.out.2.1, HFIN.out.2.2.2.2⟩)
end
end Go.Proofs.YtiklbannoinioaaDoor
