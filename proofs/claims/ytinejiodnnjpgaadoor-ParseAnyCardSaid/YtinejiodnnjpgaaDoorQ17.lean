/- The machine's reduce. · The document's Stand in memory: states and trees, each a row of its own. -/
import Derived.Test.YtinejiodnnjpgaaDoorQ16
import Derived.Test.YtinejiodnnjpgaaDoorQ3
namespace Go.Proofs.YtinejiodnnjpgaaDoor
open Go.RowKit BigFrame
set_option linter.unusedVariables false
set_option linter.unusedSimpArgs false
set_option maxRecDepth 100000

theorem redP_no {G : Gr} {T : Tb} {st : St} {p : Int} (h : st.2.length < (prodAt G p).2.1.length) : redP G T st p = none := by
  unfold redP
  rw [if_neg (by omega)]
theorem redP_yes {G : Gr} {T : Tb} {ss : List Int} {ts : List Tr} {p : Int} {f n : Nat} (hn : (prodAt G p).2.1.length = n) (hf : ts.length = f + n) :
    redP G T (ss, ts) p = if gotoAt T (nth ss f) (prodAt G p).1 < 0 then none else some (ss.take (f + 1) ++ [gotoAt T (nth ss f) (prodAt G p).1], ts.take f ++ [.node p 0 (ts.drop f)]) := by
  unfold redP
  simp only [hn, hf]
  rw [if_pos (by omega), show f + n - n = f by omega]
/-- A node laid with an own row of kids. -/
theorem node_mk {w : World} {nb base' : Nat} {p tok : Int} {kv : Value} {us : List Value} {ks : List Tr} {S S' : Nat → Prop} (hb : Blk w nb 68 [.int .i64 p, .int .i64 tok, kv]) (hr : w.ownsRow base' 38 1 kv ks.length us)
    (ht : ∀ (i : Nat) (t : Tr), ks[i]? = some t → ∃ u, us[i]? = some u ∧ TrIn w S u t) (hS : ∀ b, S b ∨ b = nb ∨ kv.ownBlock = some b → S' b) : TrIn w S' (.pointer (some ⟨nb, 0, none⟩)) (.node p tok ks) := by
  obtain ⟨A, c, rfl, h1, h2, _⟩ := own_form hr
  rw [TrIn]
  refine ⟨nb, A, c, rfl, hS nb (.inr (.inl rfl)), hb.cell rfl, hb.cell rfl, hb.cell rfl, h1, h2, fun h0 => ?_⟩
  obtain ⟨g, cap, e, _, _, _, _, hc⟩ := own_at hr h0
  simp only [Value.slice.injEq] at e
  obtain ⟨rfl, _, rfl⟩ := e
  refine ⟨g, 0, rfl, hS g (.inr (.inr rfl)), TrsIn.mk_ fun i k hk => ?_⟩
  obtain ⟨u, h3, h4⟩ := ht i k hk
  exact ⟨u, by rw [Nat.zero_add]; exact hc i u h3, TrIn.keep (fun _ _ => rfl) (fun b q => hS b (.inl q)) h4⟩
theorem iv_take (l : List Int) (k : Nat) : (iv l).take k = iv (l.take k) := by unfold iv; rw [List.map_take]
theorem ownBlock_len (A : Option Addr) (k n c : Nat) : (Value.slice A k c).ownBlock = (Value.slice A n c).ownBlock := by cases A <;> rfl
/-- A production's cells. -/
theorem red_prod {w : World} {B : Nat} {G : Gr} {Ap Al As : Option Addr} {np cp nl cl ns cs : Nat} (hG : GrIn w B G Ap Al As np cp nl cl ns cs) (hk : GOk G) {p : Int} (h0 : 0 ≤ p) (h1 : p < G.prods.length) :
    ∃ (pn pb po xn : Nat) (A' : Option Addr) (n' c' : Nat), p = (pn : Int) ∧ pn < np ∧ np ≤ maxLen ∧ Ap = some ⟨pb, po, none⟩ ∧ pb < B ∧ w.cell? ⟨pb, po + pn * 3, none⟩ = some (.int .i64 (xn : Int)) ∧ w.cell? ⟨pb, po + pn * 3 + 1, none⟩ = some (.slice A' n' c') ∧
      (prodAt G p).1 = (xn : Int) ∧ (xn : Int) < G.names ∧ (prodAt G p).2.1.length = n' ∧ n' ≤ c' ∧ c' ≤ maxLen := by
  obtain ⟨pn, rfl⟩ := Int.eq_ofNat_of_zero_le h0
  obtain ⟨hpl, hpm⟩ := hG.p.len
  obtain ⟨pb, po, rfl, hpb, hpc⟩ := hG.p.at_ (by omega)
  obtain ⟨x, r, y, A', n', c', q0, q1, q2, q3, q4, q5, q6, q7⟩ := hpc pn (by omega)
  have hx := prodAt_of q0
  have hpr := hk.pr _ (List.mem_of_getElem? q0)
  have l0 := hpr.l0; have l1 := hpr.l1
  obtain ⟨xn, hxn⟩ := Int.eq_ofNat_of_zero_le l0
  simp only at hxn l1
  subst hxn
  exact ⟨pn, pb, po, xn, A', n', c', rfl, by omega, hpm, rfl, hpb, q1, q2, by rw [hx], l1, by rw [hx]; exact q4, q5, q6⟩
/-- The cells that lead from a state and a name to the state behind. -/
theorem red_goto {w : World} {B base : Nat} {G : Gr} {T : Tb} {Aa Ag : Option Addr} {na ca ng cg : Nat} {sv : Value} {ss : List Int} {ts : List Tr} (hr : w.ownsRow base 3 1 sv ss.length (iv ss)) (hT : TbIn w B T Aa na ca Ag ng cg) (hf : TFits G T) (hs : StOk G T (ss, ts)) {f xn : Nat} (hfl : f < ss.length) (hx : (xn : Int) < G.names) :
    ∃ (sb cs s gb go rb ro n2 c2 : Nat), sv = .slice (some ⟨sb, 0, none⟩) ss.length cs ∧ ss.length ≤ cs ∧ cs ≤ maxLen ∧ sb < w.heap.size ∧ w.cell? ⟨sb, f, none⟩ = some (.int .i64 (s : Int)) ∧ s < ng ∧ ng ≤ cg ∧ cg ≤ maxLen ∧ Ag = some ⟨gb, go, none⟩ ∧ gb < B ∧
      w.cell? ⟨gb, go + s, none⟩ = some (.slice (some ⟨rb, ro, none⟩) n2 c2) ∧ n2 ≤ c2 ∧ c2 ≤ maxLen ∧ rb < B ∧ xn < n2 ∧ w.cell? ⟨rb, ro + xn, none⟩ = some (.int .i64 (gotoAt T (nth ss f) (xn : Int))) := by
  obtain ⟨sb, cs, e1, hc1, hc2, hsb, _, hcell⟩ := own_at hr (by omega)
  obtain ⟨hla, hca, hma⟩ := shL_len hT.a
  obtain ⟨hlg, hcg, hmg⟩ := shL_len hT.g
  have hn0 := hf.n0
  have hgl := hf.gl
  obtain ⟨q0, q1⟩ := hs.s (nth ss f) (by rw [nth_get hfl]; exact List.getElem_mem _)
  obtain ⟨s, hse⟩ := Int.eq_ofNat_of_zero_le q0
  have hsn : s < ng := by omega
  obtain ⟨gb, go, rfl, hgb, hgc⟩ := hT.g.at_ (by omega)
  obtain ⟨A1, n1, c1, x1, x2, x3, x4, x5⟩ := hgc s hsn
  have hrow := hf.row s (by omega)
  have hgl2 := hrow.gl
  obtain ⟨rb, ro, rfl, hrb, hrc⟩ := x5.at_ (by omega)
  have v1 := hrc xn (by omega)
  refine ⟨sb, cs, s, gb, go, rb, ro, n1, c1, e1, hc1, hc2, hsb, ?_, hsn, hcg, hmg, rfl, hgb, x1, x3, x4, hrb, by omega, ?_⟩
  · exact hcell f _ (by rw [iv_get hfl, hse])
  · rw [v1]; unfold gotoAt; rw [hse]; simp
/-- Both rows cut: the machine behind. -/
theorem MachV.cut {w : World} {base m : Nat} {hd : List Value} {As At : Option Addr} {ns cs nt ct f : Nat} {ss : List Int} {ts : List Tr} {vs : List Value} {U : Nat → Prop} (h : MachV w base m hd (.slice As ns cs) (.slice At nt ct) ss ts vs U) (hns : ns = ss.length) (hnt : nt = ts.length) (hf : f ≤ nt) (hf1 : f + 1 ≤ ns) :
    MachV ((w.setCell ⟨m, 9, none⟩ (.slice As (f + 1) cs)).setCell ⟨m, 10, none⟩ (.slice At f ct)) base m hd (.slice As (f + 1) cs) (.slice At f ct) (ss.take (f + 1)) (ts.take f) (vs.take f) U ∧
    Fm base w ((w.setCell ⟨m, 9, none⟩ (.slice As (f + 1) cs)).setCell ⟨m, 10, none⟩ (.slice At f ct)) := by
  subst hns hnt
  obtain ⟨h1, h2, _, _⟩ := h.setS (w1 := w) (sv' := .slice As (f + 1) cs) (ss' := ss.take (f + 1)) (grown_refl _ _) (by
    have := own_cut h.s hf1
    rw [iv_take] at this
    rw [List.length_take, Nat.min_eq_left hf1]
    exact this) (fun b e => .inl ((ownBlock_len As _ _ cs).symm.trans e))
  obtain ⟨h3, h4, _, _⟩ := h1.setT (w1 := w.setCell ⟨m, 9, none⟩ (.slice As (f + 1) cs)) (tv' := .slice At f ct) (ts' := ts.take f) (vs' := vs.take f) (grown_refl _ _) (by
    have := own_cut h1.t hf
    rw [List.length_take, Nat.min_eq_left hf]
    exact this) (fun b e => .inl ((ownBlock_len At _ _ ct).symm.trans e)) (fun i t ht => by
    rw [List.getElem?_take] at ht
    split at ht
    · rename_i q
      obtain ⟨u, g1, g2⟩ := h1.tr i t ht
      exact ⟨u, by rw [List.getElem?_take, if_pos q]; exact g1, g2⟩
    · cases ht)
  exact ⟨h3, h2.trans h4⟩
/-- What a reduction answers. -/
def RedEnd (w : World) (base m : Nat) (hd : List Value) (E : Nat → Addr) (o : Option St) (e : Ending) (w' : World) : Prop :=
  (match o with
    | none => e = .returned (.tuple #[.bool true, ew (E 2)])
    | some st' => e = .returned (.tuple #[.bool false, .nilIface]) ∧ Mach w' base m hd st') ∧ Fm base w w'
end Go.Proofs.YtinejiodnnjpgaaDoor
namespace Go.Proofs.YtinejiodnnjpgaaDoor
open Go.RowKit BigFrame
set_option linter.unusedVariables false
set_option linter.unusedSimpArgs false
set_option maxRecDepth 100000

theorem Rd.take {w : World} {B : Nat} {A : Option Addr} {xs : List Value} (h : Rd w B A xs) (k : Nat) : Rd w B A (xs.take k) := fun hn => by
  obtain ⟨b, off, e, hb, hc⟩ := h (fun e => hn (by rw [e]; simp))
  refine ⟨b, off, e, hb, fun j u hu => hc j u ?_⟩
  rw [List.getElem?_take] at hu
  split at hu
  · exact hu
  · cases hu
theorem Rd.drop {w : World} {B b off : Nat} {xs : List Value} (h : Rd w B (some ⟨b, off, none⟩) xs) (k : Nat) : Rd w B (some ⟨b, off + k, none⟩) (xs.drop k) := fun hn => by
  obtain ⟨b', off', e, hb, hc⟩ := h (fun e => hn (by rw [e]; simp))
  cases e
  refine ⟨b, off + k, rfl, hb, fun j u hu => ?_⟩
  rw [List.getElem?_drop] at hu
  have := hc (k + j) u hu
  rw [show off + k + j = off + (k + j) by omega]
  exact this
/-- What stays: all below base; all blocks but y of other types than a row of numbers', a row of trees'. -/
structure Fs (base y : Nat) (w w' : World) : Prop where
  bel : Below base w w'
  ty : ∀ (b : Nat) (cs : Array Value) (t : TypeId) (fr : Nat × Nat), w.heap[b]? = some (.cells cs t fr) → b ≠ y → t ≠ 3 → t ≠ 38 → w'.heap[b]? = w.heap[b]?
theorem Fs.refl (base y : Nat) (w : World) : Fs base y w w := ⟨Below.refl _ _, fun _ _ _ _ _ _ _ _ => rfl⟩
theorem Fs.trans {base y : Nat} {a w w' : World} (h : Fs base y a w) (k : Fs base y w w') : Fs base y a w' :=
  ⟨h.bel.trans k.bel, fun b cs t fr e q1 q2 q3 => by
    have e1 := h.ty b cs t fr e q1 q2 q3
    rw [← e1]
    exact k.ty b cs t fr (e1.trans e) q1 q2 q3⟩
theorem Fs.of {base y : Nat} {w w' : World} (h : Below w.heap.size w w') (hb : base ≤ w.heap.size) : Fs base y w w' :=
  ⟨h.mono hb, fun b cs t fr e _ _ _ => h.block b (lt_of_heap e)⟩
theorem Fs.blk {base y : Nat} {w w' : World} (h : Fs base y w w') {g : Nat} {e : TypeId} {vs : List Value} (hb : Blk w g e vs) (h0 : g ≠ y) (h2 : e ≠ 3) (h3 : e ≠ 38) : Blk w' g e vs := (h.ty g _ e _ hb h0 h2 h3).trans hb
/-- States and trees, each a row of its own; the trees in blocks of U. -/
structure StV (w : World) (base : Nat) (sv tv : Value) (ss : List Int) (ts : List Tr) (vs : List Value) (U : Nat → Prop) : Prop where
  s : w.ownsRow base 3 1 sv ss.length (iv ss)
  t : w.ownsRow base 38 1 tv ts.length vs
  tr : ∀ (i : Nat) (t : Tr), ts[i]? = some t → ∃ u, vs[i]? = some u ∧ TrIn w U u t
  u : ∀ b, U b → b < w.heap.size ∧ sv.ownBlock ≠ some b ∧ tv.ownBlock ≠ some b
  ut : ∀ b, U b → TrTy w b
section
variable {w w1 : World} {base y : Nat} {sv tv sv' tv' : Value} {ss ss' : List Int} {ts ts' : List Tr} {vs vs' : List Value} {U U' : Nat → Prop}
theorem StV.vl (h : StV w base sv tv ss ts vs U) : vs.length = ts.length := by have := h.t.1; omega
theorem StV.ext (h : StV w base sv tv ss ts vs U) (hb : Below w.heap.size w w1) : StV w1 base sv tv ss ts vs U :=
  ⟨own_ext h.s hb, own_ext h.t hb, fun i t ht => by
    obtain ⟨u, h1, h2⟩ := h.tr i t ht
    exact ⟨u, h1, TrIn.keep (fun b q => hb.block b (h.u b q).1) (fun _ q => q) h2⟩, fun b q => ⟨Nat.lt_of_lt_of_le (h.u b q).1 hb.size, (h.u b q).2⟩, fun b q => (h.ut b q).same (hb.block b (h.u b q).1)⟩
theorem StV.one (h : StV w base sv tv ss ts vs U) : ∀ u ∈ vs, u.oneCell' = true := fun u hu => by
  obtain ⟨i, hi, e⟩ := List.getElem_of_mem hu
  obtain ⟨u', q1, q2⟩ := h.tr i (ts[i]'(by rw [← h.vl]; exact hi)) (List.getElem?_eq_getElem _)
  rw [List.getElem?_eq_getElem hi, e] at q1
  cases q1
  exact q2.one
theorem StV.more (h : StV w base sv tv ss ts vs U) (hU : ∀ b, U' b → U b ∨ (b < w.heap.size ∧ sv.ownBlock ≠ some b ∧ tv.ownBlock ≠ some b) ∧ TrTy w b) (hU2 : ∀ b, U b → U' b) : StV w base sv tv ss ts vs U' :=
  ⟨h.s, h.t, fun i t ht => by
    obtain ⟨u, h1, h2⟩ := h.tr i t ht
    exact ⟨u, h1, TrIn.keep (fun _ _ => rfl) hU2 h2⟩, fun b q => by
    rcases hU b q with q | q
    · exact h.u b q
    · exact q.1, fun b q => by
    rcases hU b q with q | q
    · exact h.ut b q
    · exact q.2⟩
theorem StV.st (h : StV w base sv tv ss ts vs U) {b : Nat} (h1 : sv.ownBlock = some b) (h2 : tv.ownBlock = some b) : False := by
  obtain ⟨cur, q⟩ := own_heap h.s h1
  obtain ⟨cur2, q2⟩ := own_heap h.t h2
  rw [q] at q2
  cases q2
/-- A Stand's box is none of the blocks. -/
theorem StV.sb (h : StV w base sv tv ss ts vs U) (hb : Blk w y 97 [sv, tv]) : sv.ownBlock ≠ some y ∧ tv.ownBlock ≠ some y ∧ ∀ b, U b → b ≠ y := by
  unfold Blk at hb
  refine ⟨fun e => ?_, fun e => ?_, fun b q e => ?_⟩
  · obtain ⟨cur, q⟩ := own_heap h.s e
    rw [hb] at q
    cases q
  · obtain ⟨cur, q⟩ := own_heap h.t e
    rw [hb] at q
    cases q
  · subst e
    obtain ⟨cs, t, fr, e1, e2⟩ := h.ut _ q
    rw [hb] at e1
    cases e1
    rcases e2 with e2 | e2 <;> cases e2
/-- A cell of another type's block is written. -/
theorem StV.far (h : StV w base sv tv ss ts vs U) {p : Addr} {cs : Array Value} {t : TypeId} {fr : Nat × Nat} (hp : w.heap[p.block]? = some (.cells cs t fr)) (h2 : t ≠ 3) (h3 : t ≠ 38) (h4 : t ≠ 68) (u : Value) : StV (w.setCell p u) base sv tv ss ts vs U := by
  have hU : ∀ b, U b → b ≠ p.block := fun b q e => by
    obtain ⟨cs', t', fr', e1, e2⟩ := h.ut b q
    rw [e, hp] at e1
    cases e1
    rcases e2 with e2 | e2
    · exact h4 e2
    · exact h3 e2
  have hk : ∀ b, U b → (w.setCell p u).heap[b]? = w.heap[b]? := fun b q => Below.heap_setCell w p u b (hU b q)
  refine ⟨ownsRow_setCell_other h.s (fun e => ?_) u, ownsRow_setCell_other h.t (fun e => ?_) u, fun i t ht => ?_, fun b q => by rw [setCell_size]; exact h.u b q, fun b q => (h.ut b q).same (hk b q)⟩
  · obtain ⟨cur, q⟩ := own_heap h.s e
    rw [hp] at q
    cases q
    exact h2 rfl
  · obtain ⟨cur, q⟩ := own_heap h.t e
    rw [hp] at q
    cases q
    exact h3 rfl
  · obtain ⟨u, g1, g2⟩ := h.tr i t ht
    exact ⟨u, g1, TrIn.keep hk (fun _ q => q) g2⟩
/-- The row of states made anew. -/
theorem StV.setS (h : StV w base sv tv ss ts vs U) (hy : Blk w y 97 [sv, tv]) (hby : base ≤ y) (hg : w.grownBy w1 sv.ownBlock) (hr : w1.ownsRow base 3 1 sv' ss'.length (iv ss')) (ha : ∀ b, sv'.ownBlock = some b → sv.ownBlock = some b ∨ w.heap.size ≤ b) :
    StV (w1.setCell ⟨y, 0, none⟩ sv') base sv' tv ss' ts vs U ∧ Blk (w1.setCell ⟨y, 0, none⟩ sv') y 97 [sv', tv] ∧ Fs base y w (w1.setCell ⟨y, 0, none⟩ sv') ∧ w1.cell? ⟨y, 0, none⟩ = some sv ∧ w1.frozen? ⟨y, 0, none⟩ = false := by
  obtain ⟨n1, n2, n3⟩ := h.sb hy
  have hbm := hy.grown hg (fun e => n1 e.symm)
  have hlt := hy.lt
  have hgs := hg.size
  have hsm' : sv'.ownBlock ≠ some y := fun e => by
    rcases ha y e with q | q
    · exact n1 q
    · omega
  have hu2 : ∀ b, U b → (w1.setCell ⟨y, 0, none⟩ sv').heap[b]? = w.heap[b]? := fun b q => by
    obtain ⟨q1, q3, q4⟩ := h.u b q
    rw [Below.heap_setCell _ _ _ b (by show b ≠ y; exact n3 b q)]
    exact hg.block b q1 (fun e => q3 e.symm)
  have htr : w1.ownsRow base 38 1 tv ts.length vs := h.t.kept hg (by
    cases e : tv.ownBlock with
    | none => exact .inl rfl
    | some b => exact .inr (fun e2 => h.st e2.symm e))
  refine ⟨⟨ownsRow_setCell_other hr hsm' _, ownsRow_setCell_other htr n2 _, fun i t ht => ?_, fun b q => ?_, fun b q => (h.ut b q).same (hu2 b q)⟩, hbm.set_ 0 sv', ?_, hbm.cell rfl, hbm.frozen 0⟩
  · obtain ⟨u, h1, h2⟩ := h.tr i t ht
    exact ⟨u, h1, TrIn.keep hu2 (fun _ q => q) h2⟩
  · obtain ⟨q1, q3, q4⟩ := h.u b q
    refine ⟨by rw [setCell_size]; omega, fun e => ?_, q4⟩
    rcases ha b e with z | z
    · exact q3 z
    · omega
  · refine ⟨((Below.refl base w).grown hg (by omega) (fun b e => (h.s.lt b e).1)).setCell (p := ⟨y, 0, none⟩) hby _, fun b cs t fr e q1 q2 q3 => ?_⟩
    rw [Below.heap_setCell _ _ _ b (by show b ≠ y; exact q1)]
    exact hg.block b (lt_of_heap e) (fun e2 => by
      obtain ⟨cur, q⟩ := own_heap h.s e2.symm
      rw [q] at e
      cases e
      exact q2 rfl)
/-- The row of trees made anew. -/
theorem StV.setT (h : StV w base sv tv ss ts vs U) (hy : Blk w y 97 [sv, tv]) (hby : base ≤ y) (hg : w.grownBy w1 tv.ownBlock) (hr : w1.ownsRow base 38 1 tv' ts'.length vs') (ha : ∀ b, tv'.ownBlock = some b → tv.ownBlock = some b ∨ w.heap.size ≤ b)
    (ht' : ∀ (i : Nat) (t : Tr), ts'[i]? = some t → ∃ u, vs'[i]? = some u ∧ TrIn w U u t) :
    StV (w1.setCell ⟨y, 1, none⟩ tv') base sv tv' ss ts' vs' U ∧ Blk (w1.setCell ⟨y, 1, none⟩ tv') y 97 [sv, tv'] ∧ Fs base y w (w1.setCell ⟨y, 1, none⟩ tv') ∧ w1.cell? ⟨y, 1, none⟩ = some tv ∧ w1.frozen? ⟨y, 1, none⟩ = false := by
  obtain ⟨n1, n2, n3⟩ := h.sb hy
  have hbm := hy.grown hg (fun e => n2 e.symm)
  have hlt := hy.lt
  have hgs := hg.size
  have htm' : tv'.ownBlock ≠ some y := fun e => by
    rcases ha y e with q | q
    · exact n2 q
    · omega
  have hu2 : ∀ b, U b → (w1.setCell ⟨y, 1, none⟩ tv').heap[b]? = w.heap[b]? := fun b q => by
    obtain ⟨q1, q3, q4⟩ := h.u b q
    rw [Below.heap_setCell _ _ _ b (by show b ≠ y; exact n3 b q)]
    exact hg.block b q1 (fun e => q4 e.symm)
  have hsr : w1.ownsRow base 3 1 sv ss.length (iv ss) := h.s.kept hg (by
    cases e : sv.ownBlock with
    | none => exact .inl rfl
    | some b => exact .inr (fun e2 => h.st e e2.symm))
  refine ⟨⟨ownsRow_setCell_other hsr n1 _, ownsRow_setCell_other hr htm' _, fun i t ht => ?_, fun b q => ?_, fun b q => (h.ut b q).same (hu2 b q)⟩, hbm.set_ 1 tv', ?_, hbm.cell rfl, hbm.frozen 1⟩
  · obtain ⟨u, h1, h2⟩ := ht' i t ht
    exact ⟨u, h1, TrIn.keep hu2 (fun _ q => q) h2⟩
  · obtain ⟨q1, q3, q4⟩ := h.u b q
    refine ⟨by rw [setCell_size]; omega, q3, fun e => ?_⟩
    rcases ha b e with z | z
    · exact q4 z
    · omega
  · refine ⟨((Below.refl base w).grown hg (by omega) (fun b e => (h.t.lt b e).1)).setCell (p := ⟨y, 1, none⟩) hby _, fun b cs t fr e q1 q2 q3 => ?_⟩
    rw [Below.heap_setCell _ _ _ b (by show b ≠ y; exact q1)]
    exact hg.block b (lt_of_heap e) (fun e2 => by
      obtain ⟨cur, q⟩ := own_heap h.t e2.symm
      rw [q] at e
      cases e
      exact q3 rfl)
end
/-- Where a row of trees stands behind the appending of one. -/
theorem app_tr {w : World} {U : Nat → Prop} {ts : List Tr} {vs : List Value} (hl : vs.length = ts.length) (htr : ∀ (i : Nat) (t : Tr), ts[i]? = some t → ∃ u, vs[i]? = some u ∧ TrIn w U u t) {u : Value} {t : Tr} (hu : TrIn w U u t) :
    ∀ (i : Nat) (t' : Tr), (ts ++ [t])[i]? = some t' → ∃ u', (vs ++ [u])[i]? = some u' ∧ TrIn w U u' t' := fun i t' ht' => by
  by_cases q : i < ts.length
  · rw [List.getElem?_append_left q] at ht'
    obtain ⟨u, g1, g2⟩ := htr i t' ht'
    exact ⟨u, by rw [List.getElem?_append_left (by rw [hl]; exact q)]; exact g1, g2⟩
  · rw [List.getElem?_append_right (by omega)] at ht'
    by_cases q2 : i = ts.length
    · subst q2
      simp at ht'
      subst ht'
      exact ⟨_, by rw [List.getElem?_append_right (by omega), hl, Nat.sub_self]; rfl, hu⟩
    · rw [List.getElem?_eq_none (by simp; omega)] at ht'; cases ht'
/-- A Stand that a call answers: rows of its own, trees. -/
def StI (w : World) (base : Nat) (v : Value) (st : St) : Prop := ∃ sv tv vs U, v = .agg #[sv, tv] ∧ StV w base sv tv st.1 st.2 vs U
theorem StI.ext {w w1 : World} {base : Nat} {v : Value} {st : St} (h : StI w base v st) (hb : Below w.heap.size w w1) : StI w1 base v st := by
  obtain ⟨sv, tv, vs, U, e, h⟩ := h
  exact ⟨sv, tv, vs, U, e, h.ext hb⟩
end Go.Proofs.YtinejiodnnjpgaaDoor
