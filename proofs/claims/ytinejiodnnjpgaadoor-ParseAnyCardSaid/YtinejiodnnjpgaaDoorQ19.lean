/- The document's reduce. · The machine's reduce: the walk. -/
import Derived.Test.YtinejiodnnjpgaaDoorQ17
import Derived.Test.YtinejiodnnjpgaaDoorQ10
import Derived.Test.YtinejiodnnjpgaaDoorQ18
import Derived.Test.YtinejiodnnjpgaaDoorQ6
import Derived.StillTail
namespace Go.Proofs.YtinejiodnnjpgaaDoor
open Go.RowKit BigFrame
set_option linter.unusedVariables false
set_option linter.unusedSimpArgs false
set_option maxRecDepth 100000

theorem own_lower {w : World} {b0 base n : Nat} {e : TypeId} {v : Value} {xs : List Value} (h : w.ownsRow base e 1 v n xs) (hb : b0 ≤ base) : w.ownsRow b0 e 1 v n xs := by
  refine ⟨h.1, ?_⟩
  rcases h.2 with h2 | ⟨g, cap, cur, e1, hb1, r⟩
  · exact .inl h2
  · exact .inr ⟨g, cap, cur, e1, Nat.le_trans hb hb1, r⟩
theorem StV.lower {w : World} {b0 base : Nat} {sv tv : Value} {ss : List Int} {ts : List Tr} {vs : List Value} {U : Nat → Prop} (h : StV w base sv tv ss ts vs U) (hb : b0 ≤ base) : StV w b0 sv tv ss ts vs U :=
  ⟨own_lower h.s hb, own_lower h.t hb, h.tr, h.u, h.ut⟩
theorem grown_bel {w w' : World} {B : Nat} (h : w.grownBy w' (Value.slice none 0 0).ownBlock) (hB : B ≤ w.heap.size) : Below B w w' := ⟨h.os, h.tape, h.output, h.size, fun k hk => h.block k (by omega) (fun e => by cases e)⟩
theorem atn {w : World} {v' : Value} {v : Value} (h : v'.ownBlock = v.ownBlock ∨ v'.ownBlock = some w.heap.size) : ∀ b, v'.ownBlock = some b → v.ownBlock = some b ∨ w.heap.size ≤ b := fun b e => by
  rcases h with q | q
  · exact .inl (q ▸ e)
  · rw [q] at e; cases e; exact .inr (Nat.le_refl _)
theorem atn1 {w : World} {v' : Value} {v : Value} (h : v'.ownBlock = v.ownBlock ∨ v'.ownBlock = some (w.heap.size + 1)) : ∀ b, v'.ownBlock = some b → v.ownBlock = some b ∨ w.heap.size ≤ b := fun b e => by
  rcases h with q | q
  · exact .inl (q ▸ e)
  · rw [q] at e; cases e; exact .inr (Nat.le_succ _)
/-- What stage two of a reduction stands on. -/
structure RedB (w : World) (s base : Nat) (sv tv : Value) (ss : List Int) (ts : List Tr) (vs : List Value) (U : Nat → Prop) (nb : Nat) (p : Int) (ks : List Tr) : Prop where
  v : StV w base sv tv ss ts vs U
  n : TrIn w U (.pointer (some ⟨nb, 0, none⟩)) (.node p 0 ks)
  b : Blk w (s + 1 + 1) 97 [sv, tv]
  r : Blk w (s + 1 + 1 + 1) 97 [.slice none 0 0, .slice none 0 0]
theorem RedB.ext {w w1 : World} {s base : Nat} {sv tv : Value} {ss : List Int} {ts : List Tr} {vs : List Value} {U : Nat → Prop} {nb : Nat} {p : Int} {ks : List Tr} (h : RedB w s base sv tv ss ts vs U nb p ks) (hb : Below w.heap.size w w1) : RedB w1 s base sv tv ss ts vs U nb p ks :=
  ⟨h.v.ext hb, TrIn.keep (fun b q => hb.block b (h.v.u b q).1) (fun _ q => q) h.n, h.b.below' hb, h.r.below' hb⟩
/-- What the document's reduction answers. -/
def RrEnd (w : World) (base : Nat) (sv tv : Value) (E : Nat → Addr) (o : Option St) (e : Ending) (w' : World) : Prop :=
  (match o with
    | none => e = .returned (.tuple #[.agg #[sv, tv], ew (E 2)])
    | some st' => ∃ v, e = .returned (.tuple #[v, .nilIface]) ∧ StI w' base v st') ∧ Below w.heap.size w w'
/-- The world behind the boxing of a grammar, a table, a Stand; and the cell of the result. -/
theorem gtsbox (w : World) (G : Gr) (Ap Al As : Option Addr) (np cp nl cl ns cs : Nat) (u1 u2 u3 s1 s2 : Value) : ∃ w1, w1 = (((w.alloc (.cells #[.int .i64 G.terms, .int .i64 G.names, .int .i64 G.start, .slice Ap np cp, .slice Al nl cl, .slice As ns cs] 34)).alloc (.cells #[u1, u2, u3] 47)).alloc (.cells #[s1, s2] 97)).alloc (.cells #[.slice none 0 0, .slice none 0 0] 97) ∧
    Below w.heap.size w w1 ∧ w1.heap.size = w.heap.size + 4 ∧ GrBox w1 w.heap.size G Ap Al As np cp nl cl ns cs ∧ Blk w1 (w.heap.size + 1) 47 [u1, u2, u3] ∧ Blk w1 (w.heap.size + 1 + 1) 97 [s1, s2] ∧ Blk w1 (w.heap.size + 1 + 1 + 1) 97 [.slice none 0 0, .slice none 0 0] := by
  obtain ⟨h1, h2, h3, h4⟩ := gtbox w G Ap Al As np cp nl cl ns cs u1 u2 u3
  generalize (w.alloc (.cells #[.int .i64 G.terms, .int .i64 G.names, .int .i64 G.start, .slice Ap np cp, .slice Al nl cl, .slice As ns cs] 34)).alloc (.cells #[u1, u2, u3] 47) = w0 at *
  have b1 := Blk.new w0 97 [s1, s2]
  have b2 := Blk.new (w0.alloc (.cells #[s1, s2] 97)) 97 [.slice none 0 0, .slice none 0 0]
  have e2 : (w0.alloc (.cells #[s1, s2] 97)).heap.size = w.heap.size + 3 := by simp [h2]
  rw [e2] at b2
  rw [h2] at b1
  refine ⟨_, rfl, (h1.alloc h1.size _).alloc (by simp; omega) _, by simp [h2], ?_, ?_, b1.alloc _, b2⟩
  · refine h3.below (B := w.heap.size + 2) (((Below.refl _ _).alloc (by omega) _).alloc (by simp; omega) _) (by omega)
  · exact (h4.alloc _).alloc _

set_option maxHeartbeats 4000000 in
theorem rred_more (G : Gr) (Ap Al As : Option Addr) (np cp nl cl ns cs : Nat) (T : Tb) (Aa : Option Addr) (na ca : Nat) (Ag : Option Addr) (ng cg : Nat) (tc : Value) (w : World) (B base : Nat) (sv tv : Value) (ss : List Int) (ts : List Tr) (vs : List Value) (U : Nat → Prop)
    (hS : StV w base sv tv ss ts vs U) (hB : B ≤ w.heap.size) (hG : GrIn w B G Ap Al As np cp nl cl ns cs) (hf : TFits G T) (E : Nat → Addr) (hE : ErW w B E) (p : Int) (hp0 : 0 ≤ p) (hp1 : p < G.prods.length) (hn : ts.length < (prodAt G p).2.1.length) :
    Calls Tryd.prog 58 #[.agg #[.int .i64 G.terms, .int .i64 G.names, .int .i64 G.start, .slice Ap np cp, .slice Al nl cl, .slice As ns cs], .agg #[.slice Aa na ca, .slice Ag ng cg, tc], .agg #[sv, tv], .int .i64 p] w (RrEnd w base sv tv E none) := by
  obtain ⟨As', cs', hsv, hs1, hs2, -⟩ := own_form hS.s
  obtain ⟨At, ct, htv, ht1, ht2, -⟩ := own_form hS.t
  obtain ⟨w1, hw1, hb1, hz1, ⟨c0, c1, c2, c3, c4, c5⟩, bt, bs, br⟩ := gtsbox w G Ap Al As np cp nl cl ns cs (.slice Aa na ca) (.slice Ag ng cg) tc sv tv
  obtain ⟨pn, pb, po, xn, A', n', c', rfl, hpn, hpm, rfl, hpb, y1, y2, e1, e2, e3, e4, e5⟩ := red_prod hG hf.ok hp0 hp1
  have x2 := (hb1.cell (p := ⟨pb, po + pn * 3 + 1, none⟩) (Nat.lt_of_lt_of_le hpb hB)).trans y2
  have zE := (hE.below (hb1.mono hB)).g 2 (by omega)
  unfold evar at zE
  have s0 := bs.cell (i := 0) rfl
  have s1 := bs.cell (i := 1) rfl
  have r0 := br.cell (i := 0) rfl
  have r1 := br.cell (i := 1) rfl
  have f0 := br.frozen 0
  have f1 := br.frozen 1
  rw [e3] at hn
  have HB := Lib.hid hb1; have HBR := Lib.hid br; have HZ := Lib.hid hz1
  have hg1 : 2 < w.heap.size := by have : 2 < B := hE.gl 2 (by omega); omega
  have hg2 : 2 ≠ w.heap.size + 1 + 1 + 1 := by omega
  subst htv hsv
  unfold maxLen at hs2 ht2 hpm e5
  clear hS hB hG hf hE y1 y2 e1 e2 e3 hp0 hp1 bt bs br hb1
  generalize ts.length = n at *
  generalize ss.length = n3 at *
  subst hw1
  go_enter Tryd.func58, Tryd.ntmps58
  go_wp2_with fail
  generalize (((w.alloc (.cells #[.int .i64 G.terms, .int .i64 G.names, .int .i64 G.start, .slice (some ⟨pb, po, none⟩) np cp, .slice Al nl cl, .slice As ns cs] 34)).alloc (.cells #[.slice Aa na ca, .slice Ag ng cg, tc] 47)).alloc (.cells #[.slice As' n3 cs', .slice At n ct] 97)).alloc (.cells #[.slice none 0 0, .slice none 0 0] 97) = w1 at *
  go_region
  go_wp2_with fail
  have hk2 : Blk (((w1.setCell ⟨w.heap.size + 1 + 1 + 1, 0, none⟩ (.slice As' n3 cs')).setCell ⟨w.heap.size + 1 + 1 + 1, 1, none⟩ (.slice At n ct)).drew) (w.heap.size + 1 + 1 + 1) 97 [.slice As' n3 cs', .slice At n ct] := (HBR.out.set_ 0 _).set_ 1 _
  refine bodyPost_ret (results_cell_tmp_row rfl _ _ (w.heap.size + 1 + 1 + 1) _ #[.slice As' n3 cs', .slice At n ct] _ _ rfl hk2 Tryd.underlying97 rfl (by kernel_rfl)) rfl ?_
  exact ⟨rfl, ((HB.out.setCell (p := ⟨w.heap.size + 1 + 1 + 1, 0, none⟩) (by show _ ≤ w.heap.size + 1 + 1 + 1; omega) _).setCell (p := ⟨w.heap.size + 1 + 1 + 1, 1, none⟩) (by show _ ≤ w.heap.size + 1 + 1 + 1; omega) _).trans (bel_dn _ 1 _)⟩
set_option maxHeartbeats 4000000 in
theorem rred_less (G : Gr) (Ap Al As : Option Addr) (np cp nl cl ns cs : Nat) (T : Tb) (Aa : Option Addr) (na ca : Nat) (Ag : Option Addr) (ng cg : Nat) (tc : Value) (w : World) (B base : Nat) (sv tv : Value) (ss : List Int) (ts : List Tr) (vs : List Value) (U : Nat → Prop)
    (hS : StV w base sv tv ss ts vs U) (hB : B ≤ w.heap.size) (hbase : base ≤ w.heap.size) (hG : GrIn w B G Ap Al As np cp nl cl ns cs) (hT : TbIn w B T Aa na ca Ag ng cg) (hf : TFits G T) (hs : StOk G T (ss, ts)) (hlen : ts.length ≤ 100000000) (E : Nat → Addr) (hE : ErW w B E) (p : Int) (hp0 : 0 ≤ p) (hp1 : p < G.prods.length) (f : Nat) (hn : ts.length = f + (prodAt G p).2.1.length) :
    Calls Tryd.prog 58 #[.agg #[.int .i64 G.terms, .int .i64 G.names, .int .i64 G.start, .slice Ap np cp, .slice Al nl cl, .slice As ns cs], .agg #[.slice Aa na ca, .slice Ag ng cg, tc], .agg #[sv, tv], .int .i64 p] w (RrEnd w base sv tv E (redP G T (ss, ts) p)) := by
  have hsl := hs.l
  obtain ⟨pn, pb, po, xn, A', n', c', rfl, hpn, hpm, rfl, hpb, y1, y2, e1, e2, e3, e4, e5⟩ := red_prod hG hf.ok hp0 hp1
  rw [e3] at hn
  obtain ⟨sb, cs', s, gb, go, rb, ro, n2, c2, rfl, g1, g2, hsb, y3, hsn, g3, g4, rfl, hgb, y4, g5, g6, hrb, hx2, y5⟩ := red_goto (xn := xn) (f := f) hS.s hT hf hs (by simp only at hsl; omega) e2
  obtain ⟨At, ct, htv, ht1, ht2, hrdt⟩ := own_form hS.t
  have ho := redP_yes (G := G) (T := T) (ss := ss) e3 hn
  rw [e1] at ho
  obtain ⟨o, hoe⟩ : ∃ o, o = redP G T (ss, ts) (pn : Int) := ⟨_, rfl⟩
  rw [← hoe] at ho ⊢
  have HO := Lib.hid ho
  clear ho hoe
  subst htv
  obtain ⟨to, hto⟩ : ∃ to, to = gotoAt T (nth ss f) (xn : Int) := ⟨_, rfl⟩
  rw [← hto] at y5 HO
  clear hto
  have hsl2 : ss.length = f + n' + 1 := by simp only at hsl; omega
  obtain ⟨w1, hw1, hb1, hz1, gb1, bt, bs, br⟩ := gtsbox w G (some ⟨pb, po, none⟩) Al As np cp nl cl ns cs (.slice Aa na ca) (.slice (some ⟨gb, go, none⟩) ng cg) tc (.slice (some ⟨sb, 0, none⟩) ss.length cs') (.slice At ts.length ct)
  rw [hsl2, hn] at bs hw1 ⊢
  have tr := fun (q : Addr) (z : q.block < w.heap.size) => hb1.cell (p := q) z
  have x1 := (tr ⟨pb, po + pn * 3, none⟩ (Nat.lt_of_lt_of_le hpb hB)).trans y1
  have x2 := (tr ⟨pb, po + pn * 3 + 1, none⟩ (Nat.lt_of_lt_of_le hpb hB)).trans y2
  have x3 := (tr ⟨sb, f, none⟩ hsb).trans y3
  have x4 := (tr ⟨gb, go + s, none⟩ (Nat.lt_of_lt_of_le hgb hB)).trans y4
  have x5 := (tr ⟨rb, ro + xn, none⟩ (Nat.lt_of_lt_of_le hrb hB)).trans y5
  have xE := (hE.below (hb1.mono hB)).g 2 (by omega)
  unfold evar at xE
  -- what is read behind the node's making
  have hkey : ∀ wk, Below w1.heap.size w1 wk → (wk.cell? ⟨w.heap.size, 3, none⟩ = some (.slice (some ⟨pb, po, none⟩) np cp) ∧ wk.cell? ⟨w.heap.size + 1, 1, none⟩ = some (.slice (some ⟨gb, go, none⟩) ng cg) ∧ wk.cell? ⟨pb, po + pn * 3, none⟩ = some (.int .i64 (xn : Int)) ∧ wk.cell? ⟨sb, f, none⟩ = some (.int .i64 (s : Int)) ∧ wk.cell? ⟨gb, go + s, none⟩ = some (.slice (some ⟨rb, ro, none⟩) n2 c2) ∧ wk.cell? ⟨rb, ro + xn, none⟩ = some (.int .i64 to) ∧ wk.cell? ⟨2, 0, none⟩ = some (ew (E 2))) ∧
      Blk wk (w.heap.size + 1 + 1) 97 [.slice (some ⟨sb, 0, none⟩) (f + n' + 1) cs', .slice At (f + n') ct] ∧ Blk wk (w.heap.size + 1 + 1 + 1) 97 [.slice none 0 0, .slice none 0 0] ∧ Below w.heap.size w wk := fun wk h => by
    have hg2 : 2 < w1.heap.size := by have : 2 < B := hE.gl 2 (by omega); omega
    exact ⟨⟨(h.cell (p := ⟨w.heap.size, 3, none⟩) (by show w.heap.size < _; omega)).trans gb1.c3, (h.cell (p := ⟨w.heap.size + 1, 1, none⟩) (by show w.heap.size + 1 < _; omega)).trans (bt.cell rfl),
      (h.cell (p := ⟨pb, po + pn * 3, none⟩) (by show pb < _; omega)).trans x1, (h.cell (p := ⟨sb, f, none⟩) (by show sb < _; omega)).trans x3, (h.cell (p := ⟨gb, go + s, none⟩) (by show gb < _; omega)).trans x4, (h.cell (p := ⟨rb, ro + xn, none⟩) (by show rb < _; omega)).trans x5, (h.cell (p := ⟨2, 0, none⟩) hg2).trans xE⟩, bs.below' h, br.below' h, hb1.trans (h.mono (by omega))⟩
  have HKEY := Lib.hid hkey
  have hvl : vs.length = f + n' := by rw [hS.vl]; exact hn
  have hvd : (vs.drop f).length = n' * 1 := by rw [List.length_drop, hvl]; omega
  have hvt : (vs.take f).length = f * 1 := by rw [List.length_take, hvl]; omega
  have hst : (iv (ss.take (f + 1))).length = (f + 1) * 1 := by rw [iv_len, List.length_take]; omega
  have HL1 : Hid ((ss.take (f + 1)).length = f + 1) := Lib.hid (by rw [← iv_len, hst, Nat.mul_one])
  have HL2 : Hid ((ss.take (f + 1) ++ [to]).length = f + 1 + 1) := Lib.hid (by rw [List.length_append, HL1.out]; rfl)
  have HTL : Hid ((ts.take f).length = f) := Lib.hid (by rw [List.length_take]; omega)
  have HTL2 : Hid ((ts.take f ++ [Tr.node (pn : Int) 0 (ts.drop f)]).length = f + 1) := Lib.hid (by rw [List.length_append, HTL.out]; rfl)
  have HVD := Lib.hid hvd; have HVT := Lib.hid hvt; have HST := Lib.hid hst
  have HV1 : Hid (∀ u ∈ vs.drop f, u.oneCell' = true) := Lib.hid (fun u hu => hS.one u (List.mem_of_mem_drop hu))
  have HV2 : Hid (∀ u ∈ vs.take f, u.oneCell' = true) := Lib.hid (fun u hu => hS.one u (List.mem_of_mem_take hu))
  have HKL : Hid ((ts.drop f).length = n') := Lib.hid (by rw [List.length_drop]; omega)
  have hnl : f + n' ≤ 100000000 := by omega
  obtain ⟨c0, c1, c2', c3, c4, c5⟩ := gb1
  have s1 := bs.cell (i := 1) rfl
  have hrdT : ct = f → n' = 0 := fun e => by omega
  have hrdF : ct ≠ f → ∃ tb, At = some ⟨tb, 0, none⟩ := fun e => by
    rcases hS.t.2 with ⟨e1, _⟩ | ⟨g, cap, cur, e1, _⟩
    · injection e1 with a1 a2 a3
      omega
    · injection e1 with a1 a2 a3
      exact ⟨g, a1⟩
  have HS : Hid (StV w base (.slice (some ⟨sb, 0, none⟩) (f + n' + 1) cs') (.slice At (f + n') ct) ss ts vs U) := Lib.hid (by have := hS; rw [hsl2, hn] at this; exact this)
  have HRT := Lib.hid hrdT; have HRF := Lib.hid hrdF; have HRD := Lib.hid hrdt
  have HBASE := Lib.hid hbase; have HZ1 := Lib.hid hz1; have HNT := Lib.hid hn; have HSL := Lib.hid hsl2
  unfold maxLen at ht2 hpm e5 g2 g4 g6
  rw [hn] at ht1
  rw [hsl2] at g1
  clear hkey hvl hvd hvt hst hrdT hrdF hrdt hS hB hbase hG hT hf hs hE hb1 bt bs br tr y1 y2 y3 y4 y5 x1 x3 x4 x5 xE e1 e2 e3 hp0 hp1 hsl hsl2 hlen hsb hn
  have hz2 := HZ1.out
  clear hz1
  by_cases hc : ct = f
  · as_aux_lemma =>
      have HN0 : Hid (n' = 0) := Lib.hid (HRT.out hc)
      have HNIL : Hid (vs.drop f = []) := Lib.hid (List.eq_nil_of_length_eq_zero (by have := HVD.out; have := HN0.out; omega))
      clear HRT HRF
      have hc' := hc.symm
      subst hc'
      clear hc
      subst hw1
      go_enter Tryd.func58, Tryd.ntmps58
      go_wp2_with fail
      generalize (((w.alloc (.cells #[.int .i64 G.terms, .int .i64 G.names, .int .i64 G.start, .slice (some ⟨pb, po, none⟩) np cp, .slice Al nl cl, .slice As ns cs] 34)).alloc (.cells #[.slice Aa na ca, .slice (some ⟨gb, go, none⟩) ng cg, tc] 47)).alloc (.cells #[.slice (some ⟨sb, 0, none⟩) (f + n' + 1) cs', .slice At (f + n') f] 97)).alloc (.cells #[.slice none 0 0, .slice none 0 0] 97) = w1 at *
      obtain ⟨wd, hwd⟩ : ∃ wd, wd = (w1.alloc (.cells #[.int .i64 (pn : Int), .int .i64 0, .slice none 0 0] 68)).drew := ⟨_, rfl⟩
      have hbd : Below w1.heap.size w1 wd := by rw [hwd]; exact (show Below w1.heap.size w1 _ from (Below.refl _ _).alloc (Nat.le_refl _) _).trans ⟨rfl, rfl, rfl, Nat.le_refl _, fun _ _ => rfl⟩
      have hnb : Blk wd (w.heap.size + 4) 68 [.int .i64 (pn : Int), .int .i64 0, .slice none 0 0] := by
        have := Blk.new w1 68 [.int .i64 (pn : Int), .int .i64 0, .slice none 0 0]
        rw [hz2] at this
        rw [hwd]
        exact this
      have hzd := hnb.lt
      have k2 := hnb.cell (i := 2) rfl
      obtain ⟨-, bs, br, hbw⟩ := HKEY.out wd hbd
      have s1 := bs.cell (i := 1) rfl
      have HBD := Lib.hid hbd; have HNB := Lib.hid hnb
      have HSD := Lib.hid (HS.out.ext hbw)
      have hRd : Rd wd w.heap.size At (vs.drop f) := by rw [HNIL.out]; exact Rd.nil _ _ _
      have HRD2 := Lib.hid hRd
      clear hbd hnb hRd bs br hbw c0 c1 c2' c3 c4 c5
      refine wp_region_moves 1 9 (by kernel_rfl) (by kernel_rfl) (by kernel_rfl) (fun _ _ d _ _ h => by cases d <;> exact h) ?_
      rw [← hwd]
      clear hwd
      simp only [List.take_succ_cons, List.take_zero, List.drop_succ_cons, List.drop_zero]
      repeat (first | go_big_quiet_skip | (go_big_quiet_want; go_big_quiet_op; go_big_quiet_on))
      refine wpQuiet_nil ?_
      go_wp2_with (at_builtin; refine wpList_app_rd elTp rfl (.tmp 41) (.tmp 45) rfl wd.heap.size _ 0 0 0 w.heap.size At [] (vs.drop f) rfl (World.ownsRow_nil _ _ _ _) rfl (by rw [HNIL.out]; rfl) HRD2.out HV1.out (by omega) (by omega) (Nat.le_refl _) ?_; intro v2 w2 hown2 hg2 hat2; have hown2' : w2.ownsRow wd.heap.size 38 1 v2 n' (vs.drop f) := (by have := hown2; rw [List.nil_append] at this; rwa [show 0 + 0 = n' from HN0.out.symm] at this); obtain ⟨A2, cA2, rfl, q1, q2, -⟩ := own_form hown2'; have HB2 := Lib.hid (grown_bel (B := wd.heap.size) hg2 (Nat.le_refl _)); have HN2 := Lib.hid (HNB.out.below' HB2.out); have z2 := HN2.out.cell (i := 2) rfl; have z3 := HN2.out.frozen 2; have HO2 := Lib.hid hown2'; clear hown2 hown2' hg2 hat2)
      obtain ⟨w3, hw3⟩ : ∃ w3, w3 = w2.setCell ⟨w.heap.size + 4, 2, none⟩ (.slice A2 n' cA2) := ⟨_, rfl⟩
      have hb3 : Below w1.heap.size w1 w3 := by
        rw [hw3]
        exact (HBD.out.trans (HB2.out.mono (by omega))).setCell (p := ⟨w.heap.size + 4, 2, none⟩) (by show _ ≤ w.heap.size + 4; omega) _
      have hnb3 : Blk w3 (w.heap.size + 4) 68 [.int .i64 (pn : Int), .int .i64 0, .slice A2 n' cA2] := by rw [hw3]; exact HN2.out.set_ 2 _
      have hown3 : w3.ownsRow wd.heap.size 38 1 (.slice A2 n' cA2) n' (vs.drop f) := by
        rw [hw3]
        exact ownsRow_setCell_other HO2.out (fun e => by have h : wd.heap.size ≤ w.heap.size + 4 := (HO2.out.lt _ e).1; omega) _
      obtain ⟨⟨k1, k2, k3, k4, k5, k6, k7⟩, hbs, hbr, hbw3⟩ := HKEY.out w3 hb3
      have hS3 := HS.out.ext hbw3
      have hS3m := hS3.more (U' := fun b => U b ∨ b = w.heap.size + 4 ∨ (Value.slice A2 n' cA2).ownBlock = some b) (fun b q => by
        rcases q with q | q
        · exact .inl q
        · have hq : (w.heap.size ≤ b) ∧ b < w3.heap.size := by
            rcases q with q | q
            · have := hnb3.lt; exact ⟨by omega, by omega⟩
            · have := hown3.lt b q; exact ⟨by omega, this.2⟩
          refine .inr ⟨⟨hq.2, fun e => ?_, fun e => ?_⟩, ?_⟩
          · have := (HS.out.s.lt b e).2; omega
          · have := (HS.out.t.lt b e).2; omega
          · rcases q with q | q
            · rw [q]; exact ⟨_, _, _, hnb3, .inl rfl⟩
            · obtain ⟨cur, h⟩ := own_heap hown3 q
              exact ⟨_, _, _, h, .inr rfl⟩) (fun b q => .inl q)
      have htr3 : TrIn w3 (fun b => U b ∨ b = w.heap.size + 4 ∨ (Value.slice A2 n' cA2).ownBlock = some b) (.pointer (some ⟨w.heap.size + 4, 0, none⟩)) (.node (pn : Int) 0 (ts.drop f)) := by
        refine node_mk hnb3 (by rw [HKL.out]; exact hown3) (fun i t ht => ?_) (fun b q => ?_) (S := U)
        · rw [List.getElem?_drop] at ht
          obtain ⟨u, g1, g2⟩ := hS3.tr (f + i) t ht
          exact ⟨u, by rw [List.getElem?_drop]; exact g1, g2⟩
        · exact q
      obtain ⟨U2, hU2⟩ : ∃ U2 : Nat → Prop, U2 = fun b => U b ∨ b = w.heap.size + 4 ∨ (Value.slice A2 n' cA2).ownBlock = some b := ⟨_, rfl⟩
      rw [← hU2] at hS3m htr3
      clear hU2 hS3 hnb3 hown3 HO2 HN2 HB2 HBD HNB HSD HRD2 HRD HKL z2 z3
      have HR3 : Hid (RedB w3 w.heap.size base (.slice (some ⟨sb, 0, none⟩) (f + n' + 1) cs') (.slice At (f + n') f) ss ts vs U2 (w.heap.size + 4) (pn : Int) (ts.drop f)) := Lib.hid ⟨hS3m, htr3, hbs, hbr⟩
      have HBW := Lib.hid hbw3
      have s0 := hbs.cell (i := 0) rfl
      have s1 := hbs.cell (i := 1) rfl
      have r0 := hbr.cell (i := 0) rfl
      have r1 := hbr.cell (i := 1) rfl
      have f0 := hbr.frozen 0
      have f1 := hbr.frozen 1
      have hz3 := hbr.lt
      rw [← hw3]
      clear hw3 hb3 hbs hbr hS3m htr3 hbw3 HS HKEY HV1 HVD
      by_cases h0 : to < 0
      · as_aux_lemma =>
          have hoe := HO.out
          rw [if_pos h0] at hoe
          subst hoe
          go_quiet (fail)
          go_wp2_with fail
          go_region
          go_wp2_with fail
          have hk2 : Blk (((w3.drewN (nq + 1)).setCell ⟨w.heap.size + 1 + 1 + 1, 0, none⟩ (.slice (some ⟨sb, 0, none⟩) (f + n' + 1) cs')).setCell ⟨w.heap.size + 1 + 1 + 1, 1, none⟩ (.slice At (f + n') f)) (w.heap.size + 1 + 1 + 1) 97 [.slice (some ⟨sb, 0, none⟩) (f + n' + 1) cs', .slice At (f + n') f] := ((HR3.out.r.drewN (nq + 1)).set_ 0 _).set_ 1 _
          refine bodyPost_ret (results_cell_tmp_row rfl _ _ (w.heap.size + 1 + 1 + 1) _ #[.slice (some ⟨sb, 0, none⟩) (f + n' + 1) cs', .slice At (f + n') f] _ _ rfl hk2 Tryd.underlying97 rfl (by kernel_rfl)) rfl ?_
          exact ⟨rfl, ((HBW.out.trans (bel_dn _ (nq + 1) _)).setCell (p := ⟨w.heap.size + 1 + 1 + 1, 0, none⟩) (by show _ ≤ w.heap.size + 1 + 1 + 1; omega) _).setCell (p := ⟨w.heap.size + 1 + 1 + 1, 1, none⟩) (by show _ ≤ w.heap.size + 1 + 1 + 1; omega) _⟩
      · as_aux_lemma =>
          have hoe := HO.out
          rw [if_neg h0] at hoe
          have HOE := Lib.hid hoe
          clear hoe HO
          go_quiet (fail)
          rename_i nq _ _
          obtain ⟨w4, hw4⟩ : ∃ w4, w4 = w3.drewN nq := ⟨_, rfl⟩
          have HR4 := Lib.hid (HR3.out.ext (w1 := w4) (by rw [hw4]; exact bel_dn _ _ _))
          have HBW4 : Hid (Below w.heap.size w w4) := Lib.hid (by rw [hw4]; exact HBW.out.trans (bel_dn _ _ _))
          have hz4 : w.heap.size + 1 + 1 + 1 < w4.heap.size := HR4.out.r.lt
          rw [← hw4]
          clear hw4 HR3 HBW s0 s1 r0 r1 f0 f1 k1 k2 k3 k4 k5 k6 k7 hz3
          go_wp2_with fail
          obtain ⟨w5a, hw5a⟩ : ∃ w5a, w5a = w4.alloc (.cells #[.slice none 0 0, .slice none 0 0] 97) := ⟨_, rfl⟩
          obtain ⟨w5, hw5⟩ : ∃ w5, w5 = w5a.drew := ⟨_, rfl⟩
          have hb5 : Below w4.heap.size w4 w5 := by rw [hw5, hw5a]; exact (show Below w4.heap.size w4 _ from (Below.refl _ _).alloc (Nat.le_refl _) _).trans ⟨rfl, rfl, rfl, Nat.le_refl _, fun _ _ => rfl⟩
          have hy5 : Blk w5 w4.heap.size 97 [.slice none 0 0, .slice none 0 0] := by
            have := Blk.new w4 97 [.slice none 0 0, .slice none 0 0]
            rw [hw5, hw5a]
            exact this
          have hr5 := HR4.out.ext hb5
          have hv5 : StV w5 w4.heap.size (.slice none 0 0) (.slice none 0 0) [] [] [] U2 := ⟨World.ownsRow_nil _ _ _ _, World.ownsRow_nil _ _ _ _, fun i t ht => by simp at ht, fun b q => ⟨(hr5.v.u b q).1, by simp [Value.ownBlock], by simp [Value.ownBlock]⟩, hr5.v.ut⟩
          have s0 := hr5.b.cell (i := 0) rfl
          have y0 := hy5.cell (i := 0) rfl
          have HRd5 : Hid (Rd w5 w5.heap.size (some ⟨sb, 0, none⟩) (iv (ss.take (f + 1)))) := Lib.hid (by
            obtain ⟨_, _, e, -, -, h⟩ := own_form hr5.v.s
            simp only [Value.slice.injEq] at e
            obtain ⟨rfl, -, rfl⟩ := e
            have := h.take (f + 1)
            rwa [iv_take] at this)
          have hy5z := hy5.lt
          have HY5 := Lib.hid hy5; have HV5 := Lib.hid hv5; have HB5 := Lib.hid hb5
          clear hy5 hr5 hv5 hb5
          refine wp_region_still_tail 7 (by kernel_rfl) (by kernel_rfl) ?_
          simp only [List.take_succ_cons, List.take_zero, List.drop_succ_cons, List.drop_zero]
          rw [← hw5a]
          clear hw5a
          change wpStill _ _ w5a.drew (fun a' => wpList _ _ _ _ a' w5a.drew) _ _
          rw [← hw5]
          clear hw5
          refine wpStill_of_quiet _ _ ?_
          repeat (first | go_big_quiet_skip | (go_big_quiet_want; go_big_quiet_op; go_big_quiet_on))
          refine wpQuiet_nil ?_
          go_wp2_with (first
            | (at_builtin; refine wpList_app_rd elIn rfl (.tmp 71) (.tmp 76) rfl w4.heap.size _ 0 (f + 1) cs' w5.heap.size (some ⟨sb, 0, none⟩) [] (iv (ss.take (f + 1))) rfl (World.ownsRow_nil _ _ _ _) rfl HST.out HRd5.out (iv_one _) (by omega) (by omega) (by omega) ?_; intro v6 w6 hown6 hg6 hat6; rw [List.nil_append, Nat.zero_add] at hown6; obtain ⟨A6, cA6, rfl, -, -, -⟩ := own_form hown6; have hset6 := HV5.out.setS HY5.out (Nat.le_refl _) hg6 (ss' := ss.take (f + 1)) (by rw [HL1.out]; exact hown6) (atn hat6); have z6 := hset6.2.2.2.1; have z7 := hset6.2.2.2.2; have HS6 := Lib.hid hset6; have HO6 : Hid ((w6.setCell ⟨w4.heap.size, 0, none⟩ (.slice A6 (f + 1) cA6)).ownsRow w4.heap.size 3 1 (.slice A6 (f + 1) cA6) (f + 1) (iv (ss.take (f + 1)))) := Lib.hid (by have := HS6.out.1.s; rwa [HL1.out] at this); have HZ6 : Hid (w4.heap.size ≤ (w6.setCell ⟨w4.heap.size, 0, none⟩ (.slice A6 (f + 1) cA6)).heap.size) := Lib.hid (Nat.le_of_lt HS6.out.2.1.lt); clear hown6 hg6 hat6 hset6)
            | (at_builtin; refine wpList_app elIn rfl (.tmp 80) (.tmp 82) rfl w4.heap.size _ (f + 1) 1 (iv (ss.take (f + 1))) [.int .i64 to] rfl HO6.out (by rw [setCell_size]; rfl) rfl (by simp [Value.oneCell']) ?_ ?_ HZ6.out ?_; omega; omega; intro v8 w8 hown8 hg8 hat8; obtain ⟨A8, cA8, rfl, -, -, -⟩ := own_form hown8; have hset8 := HS6.out.1.setS HS6.out.2.1 (Nat.le_refl _) hg8 (ss' := ss.take (f + 1) ++ [to]) (by rw [HL2.out, iv_app]; exact hown8) (atn1 hat8); have z8 := hset8.2.2.2.1; have z9 := hset8.2.2.2.2; have HS8 := Lib.hid hset8; clear hown8 hg8 hat8 hset8 z6 z7))
          obtain ⟨w9a, hw9a⟩ : ∃ w9a, w9a = w8.setCell ⟨w4.heap.size, 0, none⟩ (.slice A8 (f + 1 + 1) cA8) := ⟨_, rfl⟩
          obtain ⟨w9, hw9⟩ : ∃ w9, w9 = w9a.drew := ⟨_, rfl⟩
          have hd9 : Below w9a.heap.size w9a w9 := by rw [hw9]; exact ⟨rfl, rfl, rfl, Nat.le_refl _, fun _ _ => rfl⟩
          have hs8 := HS8.out
          rw [← hw9a] at hs8
          have hv9 := hs8.1.ext hd9
          have hy9 := hs8.2.1.below' hd9
          have hlt9 := hs8.2.1.lt
          have hb9 : Below w4.heap.size w4 w9 := HB5.out.trans (HS6.out.2.2.1.bel.trans (hs8.2.2.1.bel.trans (hd9.mono (Nat.le_of_lt hlt9))))
          have hr9 := HR4.out.ext hb9
          have s1 := hr9.b.cell (i := 1) rfl
          have y1 := hy9.cell (i := 1) rfl
          have HRd9 : Hid (Rd w9 w9.heap.size At (vs.take f)) := Lib.hid (by
            obtain ⟨_, _, e, -, -, h⟩ := own_form hr9.v.t
            simp only [Value.slice.injEq] at e
            obtain ⟨rfl, -, rfl⟩ := e
            exact h.take f)
          have HTR9 : Hid (∀ (i : Nat) (t : Tr), (ts.take f)[i]? = some t → ∃ u, (vs.take f)[i]? = some u ∧ TrIn w9 U2 u t) := Lib.hid (fun i t ht => by
            rw [List.getElem?_take] at ht
            split at ht
            · rename_i q
              obtain ⟨u, g1, g2⟩ := hr9.v.tr i t ht
              exact ⟨u, by rw [List.getElem?_take, if_pos q]; exact g1, g2⟩
            · cases ht)
          have hz9 : w4.heap.size ≤ w9.heap.size := hb9.size
          have HV9 := Lib.hid hv9; have HY9 := Lib.hid hy9; have HB9 := Lib.hid hb9
          rw [← hw9a]
          clear hw9a hd9 hs8 hv9 hy9 hlt9 hb9 hr9 HS8 HS6 HO6 HZ6 HY5 HV5 HB5 HRd5 z8 z9 y0 s0
          refine wp_region_still_tail 6 (by kernel_rfl) (by kernel_rfl) ?_
          simp only [List.take_succ_cons, List.take_zero, List.drop_succ_cons, List.drop_zero]
          change wpStill _ _ w9a.drew (fun a' => wpList _ _ _ _ a' w9a.drew) _ _
          rw [← hw9]
          clear hw9
          refine wpStill_of_quiet _ _ ?_
          repeat (first | go_big_quiet_skip | (go_big_quiet_want; go_big_quiet_op; go_big_quiet_on))
          refine wpQuiet_nil ?_
          go_wp2_with (first
            | (at_builtin; refine wpList_app_rd elTp rfl (.tmp 86) (.tmp 90) rfl w4.heap.size _ 0 f f w9.heap.size At [] (vs.take f) rfl (World.ownsRow_nil _ _ _ _) rfl HVT.out HRd9.out HV2.out (by omega) (by omega) hz9 ?_; intro v10 w10 hown10 hg10 hat10; rw [List.nil_append, Nat.zero_add] at hown10; obtain ⟨A10, cA10, rfl, -, -, -⟩ := own_form hown10; have hset10 := HV9.out.setT HY9.out (Nat.le_refl _) hg10 (ts' := ts.take f) (vs' := vs.take f) (by rw [HTL.out]; exact hown10) (atn hat10) HTR9.out; have z6 := hset10.2.2.2.1; have z7 := hset10.2.2.2.2; have HS10 := Lib.hid hset10; have HO10 : Hid ((w10.setCell ⟨w4.heap.size, 1, none⟩ (.slice A10 f cA10)).ownsRow w4.heap.size 38 1 (.slice A10 f cA10) f (vs.take f)) := Lib.hid (by have := HS10.out.1.t; rwa [HTL.out] at this); have HZ10 : Hid (w4.heap.size ≤ (w10.setCell ⟨w4.heap.size, 1, none⟩ (.slice A10 f cA10)).heap.size) := Lib.hid (Nat.le_of_lt HS10.out.2.1.lt); clear hown10 hg10 hat10 hset10)
            | (at_builtin; refine wpList_app elTp rfl (.tmp 94) (.tmp 96) rfl w4.heap.size _ f 1 (vs.take f) [.pointer (some ⟨w.heap.size + 4, 0, none⟩)] rfl HO10.out (by rw [setCell_size]; rfl) rfl (by simp [Value.oneCell']) ?_ ?_ HZ10.out ?_; omega; omega; intro v12 w12 hown12 hg12 hat12; obtain ⟨A12, cA12, rfl, -, -, -⟩ := own_form hown12; have hb10 := HB9.out.trans HS10.out.2.2.1.bel; have hset12 := HS10.out.1.setT HS10.out.2.1 (Nat.le_refl _) hg12 (ts' := ts.take f ++ [.node (pn : Int) 0 (ts.drop f)]) (vs' := vs.take f ++ [.pointer (some ⟨w.heap.size + 4, 0, none⟩)]) (by rw [HTL2.out]; exact hown12) (atn1 hat12) (app_tr HS10.out.1.vl HS10.out.1.tr (HR4.out.ext hb10).n); have z8 := hset12.2.2.2.1; have z9 := hset12.2.2.2.2; have hb12 : Below w4.heap.size w4 w12 := hb10.grown hg12 HZ10.out (fun b e => (HO10.out.lt b e).1); have hr12 := HR4.out.ext hb12; have r0 := hr12.r.cell (i := 0) rfl; have r1 := hr12.r.cell (i := 1) rfl; have f0 := hr12.r.frozen 0; have f1 := hr12.r.frozen 1; have zy : w12.cell? ⟨w4.heap.size, 0, none⟩ = some (.slice A8 (f + 1 + 1) cA8) := (World.cell?_setCell_other (w := w12) (a := ⟨w4.heap.size, 1, none⟩) (b := ⟨w4.heap.size, 0, none⟩) (v := .slice A12 (f + 1) cA12) (by simp)).symm.trans (hset12.2.1.cell (i := 0) rfl); have HS12 := Lib.hid hset12; have HB12 := Lib.hid hb12; clear hown12 hg12 hat12 hset12 hb10 hb12 hr12 z6 z7))
          obtain ⟨w13, hw13⟩ : ∃ w13, w13 = w12.setCell ⟨w4.heap.size, 1, none⟩ (.slice A12 (f + 1) cA12) := ⟨_, rfl⟩
          have hs12 := HS12.out
          rw [← hw13] at hs12
          have hb13 : Below w4.heap.size w4 w13 := by rw [hw13]; exact HB12.out.setCell (p := ⟨w4.heap.size, 1, none⟩) (Nat.le_refl _) _
          have hr13 := (HR4.out.ext hb13).r
          rw [← hw13]
          have hk1 : Blk (w13.setCell ⟨w.heap.size + 1 + 1 + 1, 0, none⟩ (.slice A8 (f + 1 + 1) cA8)) (w.heap.size + 1 + 1 + 1) 97 [.slice A8 (f + 1 + 1) cA8, .slice none 0 0] := hr13.set_ 0 _
          have hk2 : Blk ((w13.setCell ⟨w.heap.size + 1 + 1 + 1, 0, none⟩ (.slice A8 (f + 1 + 1) cA8)).setCell ⟨w.heap.size + 1 + 1 + 1, 1, none⟩ (.slice A12 (f + 1) cA12)) (w.heap.size + 1 + 1 + 1) 97 [.slice A8 (f + 1 + 1) cA8, .slice A12 (f + 1) cA12] := hk1.set_ 1 _
          refine bodyPost_ret (results_cell_tmp_row rfl _ _ (w.heap.size + 1 + 1 + 1) _ #[.slice A8 (f + 1 + 1) cA8, .slice A12 (f + 1) cA12] _ _ rfl hk2 Tryd.underlying97 rfl (by kernel_rfl)) rfl ?_
          rw [HOE.out]
          have hbl : base ≤ w4.heap.size := by have := HBASE.out; omega
          refine ⟨⟨_, rfl, _, _, _, _, rfl, ((hs12.1.lower hbl).far (p := ⟨w.heap.size + 1 + 1 + 1, 0, none⟩) hr13 (by decide) (by decide) (by decide) _).far (p := ⟨w.heap.size + 1 + 1 + 1, 1, none⟩) hk1 (by decide) (by decide) (by decide) _⟩, ?_⟩
          exact ((HBW4.out.trans (hb13.mono (by omega))).setCell (p := ⟨w.heap.size + 1 + 1 + 1, 0, none⟩) (by show _ ≤ w.heap.size + 1 + 1 + 1; omega) _).setCell (p := ⟨w.heap.size + 1 + 1 + 1, 1, none⟩) (by show _ ≤ w.heap.size + 1 + 1 + 1; omega) _

  · as_aux_lemma =>
      obtain ⟨tb, rfl⟩ := HRF.out hc
      clear HRT HRF
      subst hw1
      go_enter Tryd.func58, Tryd.ntmps58
      go_wp2_with fail
      generalize (((w.alloc (.cells #[.int .i64 G.terms, .int .i64 G.names, .int .i64 G.start, .slice (some ⟨pb, po, none⟩) np cp, .slice Al nl cl, .slice As ns cs] 34)).alloc (.cells #[.slice Aa na ca, .slice (some ⟨gb, go, none⟩) ng cg, tc] 47)).alloc (.cells #[.slice (some ⟨sb, 0, none⟩) (f + n' + 1) cs', .slice (some ⟨tb, 0, none⟩) (f + n') ct] 97)).alloc (.cells #[.slice none 0 0, .slice none 0 0] 97) = w1 at *
      obtain ⟨wd, hwd⟩ : ∃ wd, wd = (w1.alloc (.cells #[.int .i64 (pn : Int), .int .i64 0, .slice none 0 0] 68)).drew := ⟨_, rfl⟩
      have hbd : Below w1.heap.size w1 wd := by rw [hwd]; exact (show Below w1.heap.size w1 _ from (Below.refl _ _).alloc (Nat.le_refl _) _).trans ⟨rfl, rfl, rfl, Nat.le_refl _, fun _ _ => rfl⟩
      have hnb : Blk wd (w.heap.size + 4) 68 [.int .i64 (pn : Int), .int .i64 0, .slice none 0 0] := by
        have := Blk.new w1 68 [.int .i64 (pn : Int), .int .i64 0, .slice none 0 0]
        rw [hz2] at this
        rw [hwd]
        exact this
      have hzd := hnb.lt
      have k2 := hnb.cell (i := 2) rfl
      obtain ⟨-, bs, br, hbw⟩ := HKEY.out wd hbd
      have s1 := bs.cell (i := 1) rfl
      have HBD := Lib.hid hbd; have HNB := Lib.hid hnb
      have HSD := Lib.hid (HS.out.ext hbw)
      have hRd : Rd wd w.heap.size (some ⟨tb, f, none⟩) (vs.drop f) := by have := (HRD.out.below hbw).drop f; rw [Nat.zero_add] at this; exact this
      have HRD2 := Lib.hid hRd
      clear hbd hnb hRd bs br hbw c0 c1 c2' c3 c4 c5
      refine wp_region_moves 1 9 (by kernel_rfl) (by kernel_rfl) (by kernel_rfl) (fun _ _ d _ _ h => by cases d <;> exact h) ?_
      rw [← hwd]
      clear hwd
      simp only [List.take_succ_cons, List.take_zero, List.drop_succ_cons, List.drop_zero]
      repeat (first | go_big_quiet_skip | (go_big_quiet_want; go_big_quiet_op; go_big_quiet_on))
      refine wpQuiet_nil ?_
      go_wp2_with (at_builtin; refine wpList_app_rd elTp rfl (.tmp 41) (.tmp 45) rfl wd.heap.size _ 0 n' (ct - f) w.heap.size (some ⟨tb, f, none⟩) [] (vs.drop f) rfl (World.ownsRow_nil _ _ _ _) rfl HVD.out HRD2.out HV1.out (by omega) (by omega) (Nat.le_refl _) ?_; intro v2 w2 hown2 hg2 hat2; have hown2' : w2.ownsRow wd.heap.size 38 1 v2 n' (vs.drop f) := (by have := hown2; rw [List.nil_append] at this; rwa [show 0 + n' = n' from Nat.zero_add _] at this); obtain ⟨A2, cA2, rfl, q1, q2, -⟩ := own_form hown2'; have HB2 := Lib.hid (grown_bel (B := wd.heap.size) hg2 (Nat.le_refl _)); have HN2 := Lib.hid (HNB.out.below' HB2.out); have z2 := HN2.out.cell (i := 2) rfl; have z3 := HN2.out.frozen 2; have HO2 := Lib.hid hown2'; clear hown2 hown2' hg2 hat2)
      obtain ⟨w3, hw3⟩ : ∃ w3, w3 = w2.setCell ⟨w.heap.size + 4, 2, none⟩ (.slice A2 n' cA2) := ⟨_, rfl⟩
      have hb3 : Below w1.heap.size w1 w3 := by
        rw [hw3]
        exact (HBD.out.trans (HB2.out.mono (by omega))).setCell (p := ⟨w.heap.size + 4, 2, none⟩) (by show _ ≤ w.heap.size + 4; omega) _
      have hnb3 : Blk w3 (w.heap.size + 4) 68 [.int .i64 (pn : Int), .int .i64 0, .slice A2 n' cA2] := by rw [hw3]; exact HN2.out.set_ 2 _
      have hown3 : w3.ownsRow wd.heap.size 38 1 (.slice A2 n' cA2) n' (vs.drop f) := by
        rw [hw3]
        exact ownsRow_setCell_other HO2.out (fun e => by have h : wd.heap.size ≤ w.heap.size + 4 := (HO2.out.lt _ e).1; omega) _
      obtain ⟨⟨k1, k2, k3, k4, k5, k6, k7⟩, hbs, hbr, hbw3⟩ := HKEY.out w3 hb3
      have hS3 := HS.out.ext hbw3
      have hS3m := hS3.more (U' := fun b => U b ∨ b = w.heap.size + 4 ∨ (Value.slice A2 n' cA2).ownBlock = some b) (fun b q => by
        rcases q with q | q
        · exact .inl q
        · have hq : (w.heap.size ≤ b) ∧ b < w3.heap.size := by
            rcases q with q | q
            · have := hnb3.lt; exact ⟨by omega, by omega⟩
            · have := hown3.lt b q; exact ⟨by omega, this.2⟩
          refine .inr ⟨⟨hq.2, fun e => ?_, fun e => ?_⟩, ?_⟩
          · have := (HS.out.s.lt b e).2; omega
          · have := (HS.out.t.lt b e).2; omega
          · rcases q with q | q
            · rw [q]; exact ⟨_, _, _, hnb3, .inl rfl⟩
            · obtain ⟨cur, h⟩ := own_heap hown3 q
              exact ⟨_, _, _, h, .inr rfl⟩) (fun b q => .inl q)
      have htr3 : TrIn w3 (fun b => U b ∨ b = w.heap.size + 4 ∨ (Value.slice A2 n' cA2).ownBlock = some b) (.pointer (some ⟨w.heap.size + 4, 0, none⟩)) (.node (pn : Int) 0 (ts.drop f)) := by
        refine node_mk hnb3 (by rw [HKL.out]; exact hown3) (fun i t ht => ?_) (fun b q => ?_) (S := U)
        · rw [List.getElem?_drop] at ht
          obtain ⟨u, g1, g2⟩ := hS3.tr (f + i) t ht
          exact ⟨u, by rw [List.getElem?_drop]; exact g1, g2⟩
        · exact q
      obtain ⟨U2, hU2⟩ : ∃ U2 : Nat → Prop, U2 = fun b => U b ∨ b = w.heap.size + 4 ∨ (Value.slice A2 n' cA2).ownBlock = some b := ⟨_, rfl⟩
      rw [← hU2] at hS3m htr3
      clear hU2 hS3 hnb3 hown3 HO2 HN2 HB2 HBD HNB HSD HRD2 HRD HKL z2 z3
      have HR3 : Hid (RedB w3 w.heap.size base (.slice (some ⟨sb, 0, none⟩) (f + n' + 1) cs') (.slice (some ⟨tb, 0, none⟩) (f + n') ct) ss ts vs U2 (w.heap.size + 4) (pn : Int) (ts.drop f)) := Lib.hid ⟨hS3m, htr3, hbs, hbr⟩
      have HBW := Lib.hid hbw3
      have s0 := hbs.cell (i := 0) rfl
      have s1 := hbs.cell (i := 1) rfl
      have r0 := hbr.cell (i := 0) rfl
      have r1 := hbr.cell (i := 1) rfl
      have f0 := hbr.frozen 0
      have f1 := hbr.frozen 1
      have hz3 := hbr.lt
      rw [← hw3]
      clear hw3 hb3 hbs hbr hS3m htr3 hbw3 HS HKEY HV1 HVD
      by_cases h0 : to < 0
      · as_aux_lemma =>
          have hoe := HO.out
          rw [if_pos h0] at hoe
          subst hoe
          go_quiet (fail)
          go_wp2_with fail
          go_region
          go_wp2_with fail
          have hk2 : Blk (((w3.drewN (nq + 1)).setCell ⟨w.heap.size + 1 + 1 + 1, 0, none⟩ (.slice (some ⟨sb, 0, none⟩) (f + n' + 1) cs')).setCell ⟨w.heap.size + 1 + 1 + 1, 1, none⟩ (.slice (some ⟨tb, 0, none⟩) (f + n') ct)) (w.heap.size + 1 + 1 + 1) 97 [.slice (some ⟨sb, 0, none⟩) (f + n' + 1) cs', .slice (some ⟨tb, 0, none⟩) (f + n') ct] := ((HR3.out.r.drewN (nq + 1)).set_ 0 _).set_ 1 _
          refine bodyPost_ret (results_cell_tmp_row rfl _ _ (w.heap.size + 1 + 1 + 1) _ #[.slice (some ⟨sb, 0, none⟩) (f + n' + 1) cs', .slice (some ⟨tb, 0, none⟩) (f + n') ct] _ _ rfl hk2 Tryd.underlying97 rfl (by kernel_rfl)) rfl ?_
          exact ⟨rfl, ((HBW.out.trans (bel_dn _ (nq + 1) _)).setCell (p := ⟨w.heap.size + 1 + 1 + 1, 0, none⟩) (by show _ ≤ w.heap.size + 1 + 1 + 1; omega) _).setCell (p := ⟨w.heap.size + 1 + 1 + 1, 1, none⟩) (by show _ ≤ w.heap.size + 1 + 1 + 1; omega) _⟩
      · as_aux_lemma =>
          have hoe := HO.out
          rw [if_neg h0] at hoe
          have HOE := Lib.hid hoe
          clear hoe HO
          go_quiet (fail)
          rename_i nq _ _
          obtain ⟨w4, hw4⟩ : ∃ w4, w4 = w3.drewN nq := ⟨_, rfl⟩
          have HR4 := Lib.hid (HR3.out.ext (w1 := w4) (by rw [hw4]; exact bel_dn _ _ _))
          have HBW4 : Hid (Below w.heap.size w w4) := Lib.hid (by rw [hw4]; exact HBW.out.trans (bel_dn _ _ _))
          have hz4 : w.heap.size + 1 + 1 + 1 < w4.heap.size := HR4.out.r.lt
          rw [← hw4]
          clear hw4 HR3 HBW s0 s1 r0 r1 f0 f1 k1 k2 k3 k4 k5 k6 k7 hz3
          go_wp2_with fail
          obtain ⟨w5a, hw5a⟩ : ∃ w5a, w5a = w4.alloc (.cells #[.slice none 0 0, .slice none 0 0] 97) := ⟨_, rfl⟩
          obtain ⟨w5, hw5⟩ : ∃ w5, w5 = w5a.drew := ⟨_, rfl⟩
          have hb5 : Below w4.heap.size w4 w5 := by rw [hw5, hw5a]; exact (show Below w4.heap.size w4 _ from (Below.refl _ _).alloc (Nat.le_refl _) _).trans ⟨rfl, rfl, rfl, Nat.le_refl _, fun _ _ => rfl⟩
          have hy5 : Blk w5 w4.heap.size 97 [.slice none 0 0, .slice none 0 0] := by
            have := Blk.new w4 97 [.slice none 0 0, .slice none 0 0]
            rw [hw5, hw5a]
            exact this
          have hr5 := HR4.out.ext hb5
          have hv5 : StV w5 w4.heap.size (.slice none 0 0) (.slice none 0 0) [] [] [] U2 := ⟨World.ownsRow_nil _ _ _ _, World.ownsRow_nil _ _ _ _, fun i t ht => by simp at ht, fun b q => ⟨(hr5.v.u b q).1, by simp [Value.ownBlock], by simp [Value.ownBlock]⟩, hr5.v.ut⟩
          have s0 := hr5.b.cell (i := 0) rfl
          have y0 := hy5.cell (i := 0) rfl
          have HRd5 : Hid (Rd w5 w5.heap.size (some ⟨sb, 0, none⟩) (iv (ss.take (f + 1)))) := Lib.hid (by
            obtain ⟨_, _, e, -, -, h⟩ := own_form hr5.v.s
            simp only [Value.slice.injEq] at e
            obtain ⟨rfl, -, rfl⟩ := e
            have := h.take (f + 1)
            rwa [iv_take] at this)
          have hy5z := hy5.lt
          have HY5 := Lib.hid hy5; have HV5 := Lib.hid hv5; have HB5 := Lib.hid hb5
          clear hy5 hr5 hv5 hb5
          refine wp_region_still_tail 7 (by kernel_rfl) (by kernel_rfl) ?_
          simp only [List.take_succ_cons, List.take_zero, List.drop_succ_cons, List.drop_zero]
          rw [← hw5a]
          clear hw5a
          change wpStill _ _ w5a.drew (fun a' => wpList _ _ _ _ a' w5a.drew) _ _
          rw [← hw5]
          clear hw5
          refine wpStill_of_quiet _ _ ?_
          repeat (first | go_big_quiet_skip | (go_big_quiet_want; go_big_quiet_op; go_big_quiet_on))
          refine wpQuiet_nil ?_
          go_wp2_with (first
            | (at_builtin; refine wpList_app_rd elIn rfl (.tmp 71) (.tmp 76) rfl w4.heap.size _ 0 (f + 1) cs' w5.heap.size (some ⟨sb, 0, none⟩) [] (iv (ss.take (f + 1))) rfl (World.ownsRow_nil _ _ _ _) rfl HST.out HRd5.out (iv_one _) (by omega) (by omega) (by omega) ?_; intro v6 w6 hown6 hg6 hat6; rw [List.nil_append, Nat.zero_add] at hown6; obtain ⟨A6, cA6, rfl, -, -, -⟩ := own_form hown6; have hset6 := HV5.out.setS HY5.out (Nat.le_refl _) hg6 (ss' := ss.take (f + 1)) (by rw [HL1.out]; exact hown6) (atn hat6); have z6 := hset6.2.2.2.1; have z7 := hset6.2.2.2.2; have HS6 := Lib.hid hset6; have HO6 : Hid ((w6.setCell ⟨w4.heap.size, 0, none⟩ (.slice A6 (f + 1) cA6)).ownsRow w4.heap.size 3 1 (.slice A6 (f + 1) cA6) (f + 1) (iv (ss.take (f + 1)))) := Lib.hid (by have := HS6.out.1.s; rwa [HL1.out] at this); have HZ6 : Hid (w4.heap.size ≤ (w6.setCell ⟨w4.heap.size, 0, none⟩ (.slice A6 (f + 1) cA6)).heap.size) := Lib.hid (Nat.le_of_lt HS6.out.2.1.lt); clear hown6 hg6 hat6 hset6)
            | (at_builtin; refine wpList_app elIn rfl (.tmp 80) (.tmp 82) rfl w4.heap.size _ (f + 1) 1 (iv (ss.take (f + 1))) [.int .i64 to] rfl HO6.out (by rw [setCell_size]; rfl) rfl (by simp [Value.oneCell']) ?_ ?_ HZ6.out ?_; omega; omega; intro v8 w8 hown8 hg8 hat8; obtain ⟨A8, cA8, rfl, -, -, -⟩ := own_form hown8; have hset8 := HS6.out.1.setS HS6.out.2.1 (Nat.le_refl _) hg8 (ss' := ss.take (f + 1) ++ [to]) (by rw [HL2.out, iv_app]; exact hown8) (atn1 hat8); have z8 := hset8.2.2.2.1; have z9 := hset8.2.2.2.2; have HS8 := Lib.hid hset8; clear hown8 hg8 hat8 hset8 z6 z7))
          obtain ⟨w9a, hw9a⟩ : ∃ w9a, w9a = w8.setCell ⟨w4.heap.size, 0, none⟩ (.slice A8 (f + 1 + 1) cA8) := ⟨_, rfl⟩
          obtain ⟨w9, hw9⟩ : ∃ w9, w9 = w9a.drew := ⟨_, rfl⟩
          have hd9 : Below w9a.heap.size w9a w9 := by rw [hw9]; exact ⟨rfl, rfl, rfl, Nat.le_refl _, fun _ _ => rfl⟩
          have hs8 := HS8.out
          rw [← hw9a] at hs8
          have hv9 := hs8.1.ext hd9
          have hy9 := hs8.2.1.below' hd9
          have hlt9 := hs8.2.1.lt
          have hb9 : Below w4.heap.size w4 w9 := HB5.out.trans (HS6.out.2.2.1.bel.trans (hs8.2.2.1.bel.trans (hd9.mono (Nat.le_of_lt hlt9))))
          have hr9 := HR4.out.ext hb9
          have s1 := hr9.b.cell (i := 1) rfl
          have y1 := hy9.cell (i := 1) rfl
          have HRd9 : Hid (Rd w9 w9.heap.size (some ⟨tb, 0, none⟩) (vs.take f)) := Lib.hid (by
            obtain ⟨_, _, e, -, -, h⟩ := own_form hr9.v.t
            simp only [Value.slice.injEq] at e
            obtain ⟨rfl, -, rfl⟩ := e
            exact h.take f)
          have HTR9 : Hid (∀ (i : Nat) (t : Tr), (ts.take f)[i]? = some t → ∃ u, (vs.take f)[i]? = some u ∧ TrIn w9 U2 u t) := Lib.hid (fun i t ht => by
            rw [List.getElem?_take] at ht
            split at ht
            · rename_i q
              obtain ⟨u, g1, g2⟩ := hr9.v.tr i t ht
              exact ⟨u, by rw [List.getElem?_take, if_pos q]; exact g1, g2⟩
            · cases ht)
          have hz9 : w4.heap.size ≤ w9.heap.size := hb9.size
          have HV9 := Lib.hid hv9; have HY9 := Lib.hid hy9; have HB9 := Lib.hid hb9
          rw [← hw9a]
          clear hw9a hd9 hs8 hv9 hy9 hlt9 hb9 hr9 HS8 HS6 HO6 HZ6 HY5 HV5 HB5 HRd5 z8 z9 y0 s0
          refine wp_region_still_tail 6 (by kernel_rfl) (by kernel_rfl) ?_
          simp only [List.take_succ_cons, List.take_zero, List.drop_succ_cons, List.drop_zero]
          change wpStill _ _ w9a.drew (fun a' => wpList _ _ _ _ a' w9a.drew) _ _
          rw [← hw9]
          clear hw9
          refine wpStill_of_quiet _ _ ?_
          repeat (first | go_big_quiet_skip | (go_big_quiet_want; go_big_quiet_op; go_big_quiet_on))
          refine wpQuiet_nil ?_
          go_wp2_with (first
            | (at_builtin; refine wpList_app_rd elTp rfl (.tmp 86) (.tmp 90) rfl w4.heap.size _ 0 f ct w9.heap.size (some ⟨tb, 0, none⟩) [] (vs.take f) rfl (World.ownsRow_nil _ _ _ _) rfl HVT.out HRd9.out HV2.out (by omega) (by omega) hz9 ?_; intro v10 w10 hown10 hg10 hat10; rw [List.nil_append, Nat.zero_add] at hown10; obtain ⟨A10, cA10, rfl, -, -, -⟩ := own_form hown10; have hset10 := HV9.out.setT HY9.out (Nat.le_refl _) hg10 (ts' := ts.take f) (vs' := vs.take f) (by rw [HTL.out]; exact hown10) (atn hat10) HTR9.out; have z6 := hset10.2.2.2.1; have z7 := hset10.2.2.2.2; have HS10 := Lib.hid hset10; have HO10 : Hid ((w10.setCell ⟨w4.heap.size, 1, none⟩ (.slice A10 f cA10)).ownsRow w4.heap.size 38 1 (.slice A10 f cA10) f (vs.take f)) := Lib.hid (by have := HS10.out.1.t; rwa [HTL.out] at this); have HZ10 : Hid (w4.heap.size ≤ (w10.setCell ⟨w4.heap.size, 1, none⟩ (.slice A10 f cA10)).heap.size) := Lib.hid (Nat.le_of_lt HS10.out.2.1.lt); clear hown10 hg10 hat10 hset10)
            | (at_builtin; refine wpList_app elTp rfl (.tmp 94) (.tmp 96) rfl w4.heap.size _ f 1 (vs.take f) [.pointer (some ⟨w.heap.size + 4, 0, none⟩)] rfl HO10.out (by rw [setCell_size]; rfl) rfl (by simp [Value.oneCell']) ?_ ?_ HZ10.out ?_; omega; omega; intro v12 w12 hown12 hg12 hat12; obtain ⟨A12, cA12, rfl, -, -, -⟩ := own_form hown12; have hb10 := HB9.out.trans HS10.out.2.2.1.bel; have hset12 := HS10.out.1.setT HS10.out.2.1 (Nat.le_refl _) hg12 (ts' := ts.take f ++ [.node (pn : Int) 0 (ts.drop f)]) (vs' := vs.take f ++ [.pointer (some ⟨w.heap.size + 4, 0, none⟩)]) (by rw [HTL2.out]; exact hown12) (atn1 hat12) (app_tr HS10.out.1.vl HS10.out.1.tr (HR4.out.ext hb10).n); have z8 := hset12.2.2.2.1; have z9 := hset12.2.2.2.2; have hb12 : Below w4.heap.size w4 w12 := hb10.grown hg12 HZ10.out (fun b e => (HO10.out.lt b e).1); have hr12 := HR4.out.ext hb12; have r0 := hr12.r.cell (i := 0) rfl; have r1 := hr12.r.cell (i := 1) rfl; have f0 := hr12.r.frozen 0; have f1 := hr12.r.frozen 1; have zy : w12.cell? ⟨w4.heap.size, 0, none⟩ = some (.slice A8 (f + 1 + 1) cA8) := (World.cell?_setCell_other (w := w12) (a := ⟨w4.heap.size, 1, none⟩) (b := ⟨w4.heap.size, 0, none⟩) (v := .slice A12 (f + 1) cA12) (by simp)).symm.trans (hset12.2.1.cell (i := 0) rfl); have HS12 := Lib.hid hset12; have HB12 := Lib.hid hb12; clear hown12 hg12 hat12 hset12 hb10 hb12 hr12 z6 z7))
          obtain ⟨w13, hw13⟩ : ∃ w13, w13 = w12.setCell ⟨w4.heap.size, 1, none⟩ (.slice A12 (f + 1) cA12) := ⟨_, rfl⟩
          have hs12 := HS12.out
          rw [← hw13] at hs12
          have hb13 : Below w4.heap.size w4 w13 := by rw [hw13]; exact HB12.out.setCell (p := ⟨w4.heap.size, 1, none⟩) (Nat.le_refl _) _
          have hr13 := (HR4.out.ext hb13).r
          rw [← hw13]
          have hk1 : Blk (w13.setCell ⟨w.heap.size + 1 + 1 + 1, 0, none⟩ (.slice A8 (f + 1 + 1) cA8)) (w.heap.size + 1 + 1 + 1) 97 [.slice A8 (f + 1 + 1) cA8, .slice none 0 0] := hr13.set_ 0 _
          have hk2 : Blk ((w13.setCell ⟨w.heap.size + 1 + 1 + 1, 0, none⟩ (.slice A8 (f + 1 + 1) cA8)).setCell ⟨w.heap.size + 1 + 1 + 1, 1, none⟩ (.slice A12 (f + 1) cA12)) (w.heap.size + 1 + 1 + 1) 97 [.slice A8 (f + 1 + 1) cA8, .slice A12 (f + 1) cA12] := hk1.set_ 1 _
          refine bodyPost_ret (results_cell_tmp_row rfl _ _ (w.heap.size + 1 + 1 + 1) _ #[.slice A8 (f + 1 + 1) cA8, .slice A12 (f + 1) cA12] _ _ rfl hk2 Tryd.underlying97 rfl (by kernel_rfl)) rfl ?_
          rw [HOE.out]
          have hbl : base ≤ w4.heap.size := by have := HBASE.out; omega
          refine ⟨⟨_, rfl, _, _, _, _, rfl, ((hs12.1.lower hbl).far (p := ⟨w.heap.size + 1 + 1 + 1, 0, none⟩) hr13 (by decide) (by decide) (by decide) _).far (p := ⟨w.heap.size + 1 + 1 + 1, 1, none⟩) hk1 (by decide) (by decide) (by decide) _⟩, ?_⟩
          exact ((HBW4.out.trans (hb13.mono (by omega))).setCell (p := ⟨w.heap.size + 1 + 1 + 1, 0, none⟩) (by show _ ≤ w.heap.size + 1 + 1 + 1; omega) _).setCell (p := ⟨w.heap.size + 1 + 1 + 1, 1, none⟩) (by show _ ≤ w.heap.size + 1 + 1 + 1; omega) _
theorem rred_any (G : Gr) (Ap Al As : Option Addr) (np cp nl cl ns cs : Nat) (T : Tb) (Aa : Option Addr) (na ca : Nat) (Ag : Option Addr) (ng cg : Nat) (tc : Value) (w : World) (B base : Nat) (sv tv : Value) (ss : List Int) (ts : List Tr) (vs : List Value) (U : Nat → Prop)
    (hS : StV w base sv tv ss ts vs U) (hB : B ≤ w.heap.size) (hbase : base ≤ w.heap.size) (hG : GrIn w B G Ap Al As np cp nl cl ns cs) (hT : TbIn w B T Aa na ca Ag ng cg) (hf : TFits G T) (hs : StOk G T (ss, ts)) (hlen : ts.length ≤ 100000000) (E : Nat → Addr) (hE : ErW w B E) (p : Int) (hp0 : 0 ≤ p) (hp1 : p < G.prods.length) :
    Calls Tryd.prog 58 #[.agg #[.int .i64 G.terms, .int .i64 G.names, .int .i64 G.start, .slice Ap np cp, .slice Al nl cl, .slice As ns cs], .agg #[.slice Aa na ca, .slice Ag ng cg, tc], .agg #[sv, tv], .int .i64 p] w (RrEnd w base sv tv E (redP G T (ss, ts) p)) := by
  by_cases h : ts.length < (prodAt G p).2.1.length
  · rw [redP_no h]
    exact rred_more G Ap Al As np cp nl cl ns cs T Aa na ca Ag ng cg tc w B base sv tv ss ts vs U hS hB hG hf E hE p hp0 hp1 h
  · exact rred_less G Ap Al As np cp nl cl ns cs T Aa na ca Ag ng cg tc w B base sv tv ss ts vs U hS hB hbase hG hT hf hs hlen E hE p hp0 hp1 (ts.length - (prodAt G p).2.1.length) (by omega)
end Go.Proofs.YtinejiodnnjpgaaDoor
namespace Go.Proofs.YtinejiodnnjpgaaDoor
open Go.RowKit BigFrame
set_option linter.unusedVariables false
set_option linter.unusedSimpArgs false
set_option maxRecDepth 100000

theorem reduce_more (G : Gr) (Ap Al As : Option Addr) (np cp nl cl ns cs : Nat) (T : Tb) (Aa : Option Addr) (na ca : Nat) (Ag : Option Addr) (ng cg : Nat) (tc : Value) (w : World) (B base m : Nat) (sv tv : Value) (ss : List Int) (ts : List Tr) (vs : List Value) (U : Nat → Prop)
    (hM : MachV w base m (hdM G Ap Al As np cp nl cl ns cs (.slice Aa na ca) (.slice Ag ng cg) tc) sv tv ss ts vs U) (hB : B ≤ w.heap.size) (hG : GrIn w B G Ap Al As np cp nl cl ns cs) (hf : TFits G T) (E : Nat → Addr) (hE : ErW w B E) (p : Int) (hp0 : 0 ≤ p) (hp1 : p < G.prods.length) (hn : ts.length < (prodAt G p).2.1.length) :
    Calls Tryd.prog 56 #[.pointer (some ⟨m, 0, none⟩), .agg #[.int .i64 2, .int .i64 p]] w (RedEnd w base m (hdM G Ap Al As np cp nl cl ns cs (.slice Aa na ca) (.slice Ag ng cg) tc) E none) := by
  have hb := abox w 2 p
  have hmlt := hM.lt
  have tr := fun (q : Addr) (z : q.block < w.heap.size) => hb.cell (p := q) z
  obtain ⟨At, ct, htv, ht1, ht2, -⟩ := own_form hM.t
  obtain ⟨pn, pb, po, xn, A', n', c', rfl, hpn, hpm, rfl, hpb, y1, y2, e1, e2, e3, e4, e5⟩ := red_prod hG hf.ok hp0 hp1
  have z10 := (tr ⟨m, 10, none⟩ hmlt).trans hM.c10
  have z3 : (w.alloc (.cells #[.int .i64 2, .int .i64 (pn : Int)] 82)).cell? ⟨m, 3, none⟩ = some (.slice (some ⟨pb, po, none⟩) np cp) := (tr ⟨m, 3, none⟩ hmlt).trans (hM.b.cell rfl)
  have x2 := (tr ⟨pb, po + pn * 3 + 1, none⟩ (Nat.lt_of_lt_of_le hpb hB)).trans y2
  have zE := (hE.below (hb.mono hB)).g 2 (by omega)
  unfold evar at zE
  have HB := Lib.hid (Fm.of hb hM.blt)
  subst htv
  rw [e3] at hn
  unfold maxLen at ht2 hpm e5
  clear hM hB hG hf hE hb tr y1 y2 e1 e2 e3 hp0 hp1
  generalize ts.length = n at *
  go_enter Tryd.func56, Tryd.ntmps56
  go_wp2_with fail
  go_quiet (fail)
  go_wp2_with fail
  go_ret2
  exact ⟨rfl, HB.out.trans ⟨⟨rfl, rfl, rfl, Nat.le_refl _, fun _ _ => rfl⟩, fun _ _ _ _ _ _ _ _ => rfl⟩⟩

set_option maxHeartbeats 4000000 in
theorem reduce_less (G : Gr) (Ap Al As : Option Addr) (np cp nl cl ns cs : Nat) (T : Tb) (Aa : Option Addr) (na ca : Nat) (Ag : Option Addr) (ng cg : Nat) (tc : Value) (w : World) (B base m : Nat) (sv tv : Value) (ss : List Int) (ts : List Tr) (vs : List Value) (U : Nat → Prop)
    (hM : MachV w base m (hdM G Ap Al As np cp nl cl ns cs (.slice Aa na ca) (.slice Ag ng cg) tc) sv tv ss ts vs U) (hB : B ≤ w.heap.size) (hBb : B ≤ base) (hG : GrIn w B G Ap Al As np cp nl cl ns cs) (hT : TbIn w B T Aa na ca Ag ng cg) (hf : TFits G T) (hs : StOk G T (ss, ts)) (hlen : ts.length ≤ 100000000) (E : Nat → Addr) (hE : ErW w B E) (p : Int) (hp0 : 0 ≤ p) (hp1 : p < G.prods.length) (f : Nat) (hn : ts.length = f + (prodAt G p).2.1.length) :
    Calls Tryd.prog 56 #[.pointer (some ⟨m, 0, none⟩), .agg #[.int .i64 2, .int .i64 p]] w (RedEnd w base m (hdM G Ap Al As np cp nl cl ns cs (.slice Aa na ca) (.slice Ag ng cg) tc) E (redP G T (ss, ts) p)) := by
  have hb := abox w 2 p
  have hmlt := hM.lt
  have hsl := hs.l
  obtain ⟨pn, pb, po, xn, A', n', c', rfl, hpn, hpm, rfl, hpb, y1, y2, e1, e2, e3, e4, e5⟩ := red_prod hG hf.ok hp0 hp1
  rw [e3] at hn
  obtain ⟨sb, cs', s, gb, go, rb, ro, n2, c2, rfl, g1, g2, hsb, y3, hsn, g3, g4, rfl, hgb, y4, g5, g6, hrb, hx2, y5⟩ := red_goto (xn := xn) (f := f) hM.s hT hf hs (by simp only at hsl; omega) e2
  obtain ⟨At, ct, htv, ht1, ht2, -⟩ := own_form hM.t
  have ho := redP_yes (G := G) (T := T) (ss := ss) e3 hn
  rw [e1] at ho
  obtain ⟨o, hoe⟩ : ∃ o, o = redP G T (ss, ts) (pn : Int) := ⟨_, rfl⟩
  rw [← hoe] at ho ⊢
  have HO := Lib.hid ho
  clear ho hoe
  subst htv
  obtain ⟨w1, hw1⟩ : ∃ w1, w1 = w.alloc (.cells #[.int .i64 2, .int .i64 (pn : Int)] 82) := ⟨_, rfl⟩
  rw [← hw1] at hb
  have hbs : Fm base w w1 := Fm.of hb hM.blt
  have hM1 := hM.ext hb
  have hE1 := hE.below (hb.mono hB)
  have hs1 : w1.heap.size = w.heap.size + 1 := by rw [hw1]; simp
  have z10 : w1.cell? ⟨m, 10, none⟩ = some (.slice At ts.length ct) := hM1.c10
  have z9 : w1.cell? ⟨m, 9, none⟩ = some (.slice (some ⟨sb, 0, none⟩) ss.length cs') := hM1.c9
  have z3 : w1.cell? ⟨m, 3, none⟩ = some (.slice (some ⟨pb, po, none⟩) np cp) := hM1.b.cell rfl
  have z7 : w1.cell? ⟨m, 7, none⟩ = some (.slice (some ⟨gb, go, none⟩) ng cg) := hM1.b.cell rfl
  have tr := fun (q : Addr) (z : q.block < w.heap.size) => hb.cell (p := q) z
  have v1 := (tr ⟨pb, po + pn * 3, none⟩ (Nat.lt_of_lt_of_le hpb hB)).trans y1
  have v2 := (tr ⟨pb, po + pn * 3 + 1, none⟩ (Nat.lt_of_lt_of_le hpb hB)).trans y2
  have v3 := (tr ⟨sb, f, none⟩ hsb).trans y3
  have v4 := (tr ⟨gb, go + s, none⟩ (Nat.lt_of_lt_of_le hgb hB)).trans y4
  have v5 := (tr ⟨rb, ro + xn, none⟩ (Nat.lt_of_lt_of_le hrb hB)).trans y5
  have zE := hE1.g 2 (by omega)
  unfold evar at zE
  unfold maxLen at ht2 hpm e5 g2 g4 g6
  have hmlt1 : m < w1.heap.size := hM1.lt
  have hsb1 : sb < w1.heap.size := by omega
  have HBS := Lib.hid hbs
  have HLT : Hid (pb < w1.heap.size ∧ gb < w1.heap.size ∧ rb < w1.heap.size ∧ pb ≠ m ∧ sb ≠ m ∧ gb ≠ m ∧ rb ≠ m ∧ 2 ≠ m) := Lib.hid ⟨by omega, by omega, by omega, by have := hM.bm; omega, fun e => hM.sm (by subst e; rfl), by have := hM.bm; omega, by have := hM.bm; omega, by have h1 := hM.bm; have h2 : 2 < B := hE.gl 2 (by omega); omega⟩
  have HGL : Hid (∀ i, i < 7 → evar i < w1.heap.size) := Lib.hid (fun i hi => by have := hE1.gl i hi; omega)
  have HSL := Lib.hid hsl; have HN := Lib.hid hn
  have HLEN := Lib.hid hlen
  have hnl : f + n' ≤ 100000000 := by omega
  have hvl : vs.length = f + n' := by rw [hM.vl]; exact hn
  have hvd : (vs.drop f).length = n' := by rw [List.length_drop, hvl]; omega
  have hrdT : ∀ (A : Option Addr) (c : Nat), At = A → ct = f → Calls Tryd.prog 39 #[.slice A n' 0] w1 fun e w' => ∃ v, e = .returned v ∧ w'.ownsRow w1.heap.size 38 1 v n' (vs.drop f) ∧ Below w1.heap.size w1 w' := fun A c e0 e => by
    obtain rfl : n' = 0 := by omega
    have hnil : vs.drop f = [] := List.eq_nil_of_length_eq_zero hvd
    rw [hnil]
    subst e0
    refine clone_T At 0 0 0 [] w1 ?_ rfl (by omega) (Rd.nil _ _ _) (by simp)
    rcases hM.t.2 with ⟨e1, _⟩ | ⟨g, cap, cur, e1, _⟩
    · injection e1 with a1 a2 a3
      exact .inl a1
    · injection e1 with a1 a2 a3
      exact .inr ⟨_, _, a1⟩
  have hrdF : ct ≠ f → ∃ tb, At = some ⟨tb, 0, none⟩ ∧ Calls Tryd.prog 39 #[.slice (some ⟨tb, f, none⟩) n' (ct - f)] w1 fun e w' => ∃ v, e = .returned v ∧ w'.ownsRow w1.heap.size 38 1 v n' (vs.drop f) ∧ Below w1.heap.size w1 w' := fun e => by
    have hown := own_ext hM.t hb
    rcases hown.2 with ⟨e1, _⟩ | ⟨g, cap, cur, e1, e2, e3, e4, e5, e6, e7⟩
    · injection e1 with a1 a2 a3
      omega
    · injection e1 with a1 a2 a3
      subst a1
      refine ⟨g, rfl, clone_T (some ⟨g, f, none⟩) n' (ct - f) (g + 1) (vs.drop f) w1 (.inr ⟨_, _, rfl⟩) hvd (by omega) (fun _ => ⟨g, f, rfl, Nat.lt_succ_self _, fun j u hu => ?_⟩) (fun u hu => ?_)⟩
      · rw [List.getElem?_drop] at hu
        rw [cell_of_row w1 g (f + j) cur _ (0, 0) e3, ← Array.getElem?_toList]
        rw [← e7, List.getElem?_take] at hu
        split at hu
        · exact hu
        · cases hu
      · obtain ⟨i, hi, e8⟩ := List.getElem_of_mem hu
        rw [List.getElem_drop] at e8
        obtain ⟨u', q1, q2⟩ := hM.tr (f + i) ts[f + i] (List.getElem?_eq_getElem (by rw [hvd] at hi; omega))
        rw [List.getElem?_eq_getElem (by rw [hvd] at hi; omega), e8] at q1
        cases q1
        exact q2.one
  have HNS : Hid (ss.length = f + n' + 1) := Lib.hid (by simp only at hsl; omega)
  have HNT := Lib.hid hn
  have HKL : Hid ((ts.drop f).length = n') := Lib.hid (by rw [List.length_drop]; omega)
  have HRT := Lib.hid hrdT; have HRF := Lib.hid hrdF; have HVD := Lib.hid hvd
  have hsl2 : ss.length = f + n' + 1 := by simp only at hsl; omega
  rw [hn] at z10 ht1
  rw [hsl2] at z9 g1
  have HM1 : Hid (MachV w1 base m (hdM G (some ⟨pb, po, none⟩) Al As np cp nl cl ns cs (.slice Aa na ca) (.slice (some ⟨gb, go, none⟩) ng cg) tc) (.slice (some ⟨sb, 0, none⟩) (f + n' + 1) cs') (.slice At (f + n') ct) ss ts vs U) := Lib.hid (by rw [← hn]; have := hM1; rw [show ss.length = ts.length + 1 from hsl] at this; exact this)
  clear hrdT hrdF hvl hvd hM hM1 hB hBb hG hT hf hs hE hE1 hb hbs tr y1 y2 y3 y4 y5 e1 e2 e3 hp0 hp1 hsl hsl2 hlen hn hsb hmlt
  clear hs1
  subst hw1
  by_cases hc : ct = f
  · as_aux_lemma =>
      have HC := Lib.hid (HRT.out At 0 rfl hc)
      clear HRT HRF ht1
      have hc' := hc.symm
      subst hc'
      clear hc
      go_enter Tryd.func56, Tryd.ntmps56
      go_wp2_with fail
      refine HC.out.mono ?_
      rintro e w2 ⟨v2, rfl, hown2, hb2⟩
      obtain ⟨A2, cA2, rfl, q1, q2, -⟩ := own_form hown2
      go_wp2_with fail
      obtain ⟨w3, hw3⟩ : ∃ w3, w3 = w2.alloc (.cells #[.int .i64 (pn : Int), .int .i64 0, .slice A2 n' cA2] 68) := ⟨_, rfl⟩
      rw [← hw3]
      have hb3 : Below (w.alloc (.cells #[.int .i64 2, .int .i64 (pn : Int)] 82)).heap.size (w.alloc (.cells #[.int .i64 2, .int .i64 (pn : Int)] 82)) w3 := by rw [hw3]; exact hb2.alloc hb2.size _
      have hM3 := HM1.out.ext hb3
      have hnb : Blk w3 w2.heap.size 68 [.int .i64 (pn : Int), .int .i64 0, .slice A2 n' cA2] := by rw [hw3]; exact Blk.new _ _ _
      have hown3 : w3.ownsRow (w.alloc (.cells #[.int .i64 2, .int .i64 (pn : Int)] 82)).heap.size 38 1 (.slice A2 n' cA2) n' (vs.drop f) := own_ext hown2 (by rw [hw3]; exact (Below.refl _ _).alloc (Nat.le_refl _) _)
      have hs23 : w2.heap.size < w3.heap.size := hnb.lt
      have hs12 := hb2.size
      have hMm := hM3.more (U' := fun b => U b ∨ b = w2.heap.size ∨ (Value.slice A2 n' cA2).ownBlock = some b) (fun b q => by
        rcases q with q | q
        · exact .inl q
        · have hq : (w2.heap.size ≤ b ∨ (w.alloc (.cells #[.int .i64 2, .int .i64 (pn : Int)] 82)).heap.size ≤ b) ∧ b < w3.heap.size := by
            rcases q with q | q
            · exact ⟨.inl (by omega), by omega⟩
            · exact ⟨.inr (hown3.lt b q).1, (hown3.lt b q).2⟩
          refine .inr ⟨⟨hq.2, fun e => ?_, fun e => ?_, fun e => ?_⟩, ?_⟩
          · have := HM1.out.lt; omega
          · have := (HM1.out.s.lt b e).2; omega
          · have := (HM1.out.t.lt b e).2; omega
          · rcases q with q | q
            · rw [q]; exact ⟨_, _, _, hnb, .inl rfl⟩
            · obtain ⟨cur, h⟩ := own_heap hown3 q
              exact ⟨_, _, _, h, .inr rfl⟩) (fun b q => .inl q)
      obtain ⟨hM4, hb4⟩ := hMm.cut (f := f) HNS.out.symm HNT.out.symm (by omega) (by omega)
      have htr : TrIn ((w3.setCell ⟨m, 9, none⟩ (.slice (some ⟨sb, 0, none⟩) (f + 1) cs')).setCell ⟨m, 10, none⟩ (.slice At f f)) (fun b => U b ∨ b = w2.heap.size ∨ (Value.slice A2 n' cA2).ownBlock = some b) (.pointer (some ⟨w2.heap.size, 0, none⟩)) (.node (pn : Int) 0 (ts.drop f)) := by
        refine TrIn.keep (w := w3) (S := fun b => U b ∨ b = w2.heap.size ∨ (Value.slice A2 n' cA2).ownBlock = some b) (fun b q => ?_) (fun _ q => q) (node_mk hnb (by rw [HKL.out]; exact hown3) (fun i t ht => ?_) (fun b q => ?_) (S := U))
        · have := (hMm.u b q).2.1
          rw [Below.heap_setCell _ _ _ b (by show b ≠ m; exact this), Below.heap_setCell _ _ _ b (by show b ≠ m; exact this)]
        · rw [List.getElem?_drop] at ht
          obtain ⟨u, g1, g2⟩ := hM3.tr (f + i) t ht
          exact ⟨u, by rw [List.getElem?_drop]; exact g1, g2⟩
        · exact q
      have x9 := hM3.c9
      have x10 := hM3.c10
      have f9 := hM3.b.frozen 9
      have f10 := hM3.b.frozen 10
      have HM4 := Lib.hid hM4; have HB4 := Lib.hid hb4; have HTR := Lib.hid htr; have HB3 := Lib.hid hb3; have HMM := Lib.hid hMm
      clear hM3 hMm hM4 hb4 htr hnb hown3 hown2 hw3
      go_region
      obtain ⟨w4, hw4⟩ : ∃ w4, w4 = ((w3.setCell ⟨m, 9, none⟩ (.slice (some ⟨sb, 0, none⟩) (f + 1) cs')).setCell ⟨m, 10, none⟩ (.slice At f f)).drew := ⟨_, rfl⟩
      have hbd : Below ((w3.setCell ⟨m, 9, none⟩ (.slice (some ⟨sb, 0, none⟩) (f + 1) cs')).setCell ⟨m, 10, none⟩ (.slice At f f)).heap.size ((w3.setCell ⟨m, 9, none⟩ (.slice (some ⟨sb, 0, none⟩) (f + 1) cs')).setCell ⟨m, 10, none⟩ (.slice At f f)) w4 := by rw [hw4]; exact ⟨rfl, rfl, rfl, Nat.le_refl _, fun _ _ => rfl⟩
      have hM5 := HM4.out.ext hbd
      have htr5 : TrIn w4 (fun b => U b ∨ b = w2.heap.size ∨ (Value.slice A2 n' cA2).ownBlock = some b) (.pointer (some ⟨w2.heap.size, 0, none⟩)) (.node (pn : Int) 0 (ts.drop f)) := TrIn.keep (fun b q => by rw [hw4]; rfl) (fun _ q => q) HTR.out
      have hb5 : Fm base w w4 := (HBS.out.trans (Fm.of HB3.out HM1.out.blt)).trans (HB4.out.trans (Fm.of hbd HM4.out.blt))
      have hkeep : ∀ (b o : Nat), b < (w.alloc (.cells #[.int .i64 2, .int .i64 (pn : Int)] 82)).heap.size → b ≠ m → w4.cell? ⟨b, o, none⟩ = (w.alloc (.cells #[.int .i64 2, .int .i64 (pn : Int)] 82)).cell? ⟨b, o, none⟩ := fun b o h1 h2 => by
        refine World.cell?_of_block (a := ⟨b, o, none⟩) ?_
        rw [hw4]
        show ((w3.setCell ⟨m, 9, none⟩ (.slice (some ⟨sb, 0, none⟩) (f + 1) cs')).setCell ⟨m, 10, none⟩ (.slice At f f)).heap[b]? = _
        rw [Below.heap_setCell _ _ _ b (by show b ≠ m; exact h2), Below.heap_setCell _ _ _ b (by show b ≠ m; exact h2)]
        exact HB3.out.block b h1
      have t3 : w4.cell? ⟨m, 3, none⟩ = some (.slice (some ⟨pb, po, none⟩) np cp) := hM5.b.cell rfl
      have t7 : w4.cell? ⟨m, 7, none⟩ = some (.slice (some ⟨gb, go, none⟩) ng cg) := hM5.b.cell rfl
      have t9 := hM5.c9
      have u1 := (hkeep pb (po + pn * 3) HLT.out.1 HLT.out.2.2.2.1).trans v1
      have u3 := (hkeep sb f hsb1 HLT.out.2.2.2.2.1).trans v3
      have u4 := (hkeep gb (go + s) HLT.out.2.1 HLT.out.2.2.2.2.2.1).trans v4
      have u5 := (hkeep rb (ro + xn) HLT.out.2.2.1 HLT.out.2.2.2.2.2.2.1).trans v5
      have uE := (hkeep 2 0 (HGL.out 2 (by omega)) (HLT.out.2.2.2.2.2.2.2)).trans zE
      have HM5 := Lib.hid hM5; have HTR5 := Lib.hid htr5; have HB5 := Lib.hid hb5
      rw [← hw4]
      clear hw4 hbd hM5 htr5 hb5 hkeep v1 v2 v3 v4 v5 zE z3 z7 z9 z10 x9 x10 f9 f10 HM4 HB4 HTR HB3 HMM
      obtain ⟨to, hto⟩ : ∃ to, to = gotoAt T (nth ss f) (xn : Int) := ⟨_, rfl⟩
      rw [← hto] at u5 HO
      clear hto
      go_wp2_with fail
      by_cases h0 : to < 0
      · as_aux_lemma =>
          have hoe := HO.out
          rw [if_pos h0] at hoe
          subst hoe
          go_quiet (fail)
          go_wp2_with fail
          go_quiet (fail)
          go_wp2_with fail
          go_ret2
          exact ⟨rfl, HB5.out.trans ⟨⟨rfl, rfl, rfl, Nat.le_refl _, fun _ _ => rfl⟩, fun _ _ _ _ _ _ _ _ => rfl⟩⟩
      · as_aux_lemma =>
          have hoe := HO.out
          rw [if_neg h0] at hoe
          have HOE := Lib.hid hoe
          clear hoe HO
          go_quiet (fail)
          rename_i nq _ _
          obtain ⟨w5, hw5⟩ : ∃ w5, w5 = w4.drewN nq := ⟨_, rfl⟩
          have hb45 : Below w4.heap.size w4 w5 := by rw [hw5]; exact ⟨rfl, rfl, rfl, Nat.le_refl _, fun _ _ => rfl⟩
          have HC5 := Lib.hid (push_any base m _ _ _ _ _ _ _ w5 (HM5.out.ext hb45) to _ _ (TrIn.keep (fun b q => hb45.block b (HM5.out.u b q).1) (fun _ q => q) HTR5.out) (by have := HNS.out; rw [List.length_take]; omega) (by have := HNT.out; rw [List.length_take]; omega))
          have HB6 := Lib.hid (HB5.out.trans (Fm.of hb45 HM5.out.blt))
          rw [← hw5]
          clear hw5 hb45 HM5 HTR5 HB5 u1 u3 u4 u5 uE t3 t7 t9
          go_wp2_with fail
          refine HC5.out.mono ?_
          rintro e w6 ⟨rfl, hM6, hb6⟩
          have HM6 := Lib.hid hM6; have HB7 := Lib.hid hb6
          clear hM6 hb6
          go_wp2_with fail
          go_ret2
          rw [HOE.out]
          exact ⟨⟨rfl, HM6.out⟩, HB6.out.trans HB7.out⟩

  · as_aux_lemma =>
      obtain ⟨tb, rfl, hcl⟩ := HRF.out hc
      have HC := Lib.hid hcl
      clear HRT HRF hcl
      go_enter Tryd.func56, Tryd.ntmps56
      go_wp2_with fail
      refine HC.out.mono ?_
      rintro e w2 ⟨v2, rfl, hown2, hb2⟩
      obtain ⟨A2, cA2, rfl, q1, q2, -⟩ := own_form hown2
      go_wp2_with fail
      obtain ⟨w3, hw3⟩ : ∃ w3, w3 = w2.alloc (.cells #[.int .i64 (pn : Int), .int .i64 0, .slice A2 n' cA2] 68) := ⟨_, rfl⟩
      rw [← hw3]
      have hb3 : Below (w.alloc (.cells #[.int .i64 2, .int .i64 (pn : Int)] 82)).heap.size (w.alloc (.cells #[.int .i64 2, .int .i64 (pn : Int)] 82)) w3 := by rw [hw3]; exact hb2.alloc hb2.size _
      have hM3 := HM1.out.ext hb3
      have hnb : Blk w3 w2.heap.size 68 [.int .i64 (pn : Int), .int .i64 0, .slice A2 n' cA2] := by rw [hw3]; exact Blk.new _ _ _
      have hown3 : w3.ownsRow (w.alloc (.cells #[.int .i64 2, .int .i64 (pn : Int)] 82)).heap.size 38 1 (.slice A2 n' cA2) n' (vs.drop f) := own_ext hown2 (by rw [hw3]; exact (Below.refl _ _).alloc (Nat.le_refl _) _)
      have hs23 : w2.heap.size < w3.heap.size := hnb.lt
      have hs12 := hb2.size
      have hMm := hM3.more (U' := fun b => U b ∨ b = w2.heap.size ∨ (Value.slice A2 n' cA2).ownBlock = some b) (fun b q => by
        rcases q with q | q
        · exact .inl q
        · have hq : (w2.heap.size ≤ b ∨ (w.alloc (.cells #[.int .i64 2, .int .i64 (pn : Int)] 82)).heap.size ≤ b) ∧ b < w3.heap.size := by
            rcases q with q | q
            · exact ⟨.inl (by omega), by omega⟩
            · exact ⟨.inr (hown3.lt b q).1, (hown3.lt b q).2⟩
          refine .inr ⟨⟨hq.2, fun e => ?_, fun e => ?_, fun e => ?_⟩, ?_⟩
          · have := HM1.out.lt; omega
          · have := (HM1.out.s.lt b e).2; omega
          · have := (HM1.out.t.lt b e).2; omega
          · rcases q with q | q
            · rw [q]; exact ⟨_, _, _, hnb, .inl rfl⟩
            · obtain ⟨cur, h⟩ := own_heap hown3 q
              exact ⟨_, _, _, h, .inr rfl⟩) (fun b q => .inl q)
      obtain ⟨hM4, hb4⟩ := hMm.cut (f := f) HNS.out.symm HNT.out.symm (by omega) (by omega)
      have htr : TrIn ((w3.setCell ⟨m, 9, none⟩ (.slice (some ⟨sb, 0, none⟩) (f + 1) cs')).setCell ⟨m, 10, none⟩ (.slice (some ⟨tb, 0, none⟩) f ct)) (fun b => U b ∨ b = w2.heap.size ∨ (Value.slice A2 n' cA2).ownBlock = some b) (.pointer (some ⟨w2.heap.size, 0, none⟩)) (.node (pn : Int) 0 (ts.drop f)) := by
        refine TrIn.keep (w := w3) (S := fun b => U b ∨ b = w2.heap.size ∨ (Value.slice A2 n' cA2).ownBlock = some b) (fun b q => ?_) (fun _ q => q) (node_mk hnb (by rw [HKL.out]; exact hown3) (fun i t ht => ?_) (fun b q => ?_) (S := U))
        · have := (hMm.u b q).2.1
          rw [Below.heap_setCell _ _ _ b (by show b ≠ m; exact this), Below.heap_setCell _ _ _ b (by show b ≠ m; exact this)]
        · rw [List.getElem?_drop] at ht
          obtain ⟨u, g1, g2⟩ := hM3.tr (f + i) t ht
          exact ⟨u, by rw [List.getElem?_drop]; exact g1, g2⟩
        · exact q
      have x9 := hM3.c9
      have x10 := hM3.c10
      have f9 := hM3.b.frozen 9
      have f10 := hM3.b.frozen 10
      have HM4 := Lib.hid hM4; have HB4 := Lib.hid hb4; have HTR := Lib.hid htr; have HB3 := Lib.hid hb3; have HMM := Lib.hid hMm
      clear hM3 hMm hM4 hb4 htr hnb hown3 hown2 hw3
      go_region
      obtain ⟨w4, hw4⟩ : ∃ w4, w4 = ((w3.setCell ⟨m, 9, none⟩ (.slice (some ⟨sb, 0, none⟩) (f + 1) cs')).setCell ⟨m, 10, none⟩ (.slice (some ⟨tb, 0, none⟩) f ct)).drew := ⟨_, rfl⟩
      have hbd : Below ((w3.setCell ⟨m, 9, none⟩ (.slice (some ⟨sb, 0, none⟩) (f + 1) cs')).setCell ⟨m, 10, none⟩ (.slice (some ⟨tb, 0, none⟩) f ct)).heap.size ((w3.setCell ⟨m, 9, none⟩ (.slice (some ⟨sb, 0, none⟩) (f + 1) cs')).setCell ⟨m, 10, none⟩ (.slice (some ⟨tb, 0, none⟩) f ct)) w4 := by rw [hw4]; exact ⟨rfl, rfl, rfl, Nat.le_refl _, fun _ _ => rfl⟩
      have hM5 := HM4.out.ext hbd
      have htr5 : TrIn w4 (fun b => U b ∨ b = w2.heap.size ∨ (Value.slice A2 n' cA2).ownBlock = some b) (.pointer (some ⟨w2.heap.size, 0, none⟩)) (.node (pn : Int) 0 (ts.drop f)) := TrIn.keep (fun b q => by rw [hw4]; rfl) (fun _ q => q) HTR.out
      have hb5 : Fm base w w4 := (HBS.out.trans (Fm.of HB3.out HM1.out.blt)).trans (HB4.out.trans (Fm.of hbd HM4.out.blt))
      have hkeep : ∀ (b o : Nat), b < (w.alloc (.cells #[.int .i64 2, .int .i64 (pn : Int)] 82)).heap.size → b ≠ m → w4.cell? ⟨b, o, none⟩ = (w.alloc (.cells #[.int .i64 2, .int .i64 (pn : Int)] 82)).cell? ⟨b, o, none⟩ := fun b o h1 h2 => by
        refine World.cell?_of_block (a := ⟨b, o, none⟩) ?_
        rw [hw4]
        show ((w3.setCell ⟨m, 9, none⟩ (.slice (some ⟨sb, 0, none⟩) (f + 1) cs')).setCell ⟨m, 10, none⟩ (.slice (some ⟨tb, 0, none⟩) f ct)).heap[b]? = _
        rw [Below.heap_setCell _ _ _ b (by show b ≠ m; exact h2), Below.heap_setCell _ _ _ b (by show b ≠ m; exact h2)]
        exact HB3.out.block b h1
      have t3 : w4.cell? ⟨m, 3, none⟩ = some (.slice (some ⟨pb, po, none⟩) np cp) := hM5.b.cell rfl
      have t7 : w4.cell? ⟨m, 7, none⟩ = some (.slice (some ⟨gb, go, none⟩) ng cg) := hM5.b.cell rfl
      have t9 := hM5.c9
      have u1 := (hkeep pb (po + pn * 3) HLT.out.1 HLT.out.2.2.2.1).trans v1
      have u3 := (hkeep sb f hsb1 HLT.out.2.2.2.2.1).trans v3
      have u4 := (hkeep gb (go + s) HLT.out.2.1 HLT.out.2.2.2.2.2.1).trans v4
      have u5 := (hkeep rb (ro + xn) HLT.out.2.2.1 HLT.out.2.2.2.2.2.2.1).trans v5
      have uE := (hkeep 2 0 (HGL.out 2 (by omega)) (HLT.out.2.2.2.2.2.2.2)).trans zE
      have HM5 := Lib.hid hM5; have HTR5 := Lib.hid htr5; have HB5 := Lib.hid hb5
      rw [← hw4]
      clear hw4 hbd hM5 htr5 hb5 hkeep v1 v2 v3 v4 v5 zE z3 z7 z9 z10 x9 x10 f9 f10 HM4 HB4 HTR HB3 HMM
      obtain ⟨to, hto⟩ : ∃ to, to = gotoAt T (nth ss f) (xn : Int) := ⟨_, rfl⟩
      rw [← hto] at u5 HO
      clear hto
      go_wp2_with fail
      by_cases h0 : to < 0
      · as_aux_lemma =>
          have hoe := HO.out
          rw [if_pos h0] at hoe
          subst hoe
          go_quiet (fail)
          go_wp2_with fail
          go_quiet (fail)
          go_wp2_with fail
          go_ret2
          exact ⟨rfl, HB5.out.trans ⟨⟨rfl, rfl, rfl, Nat.le_refl _, fun _ _ => rfl⟩, fun _ _ _ _ _ _ _ _ => rfl⟩⟩
      · as_aux_lemma =>
          have hoe := HO.out
          rw [if_neg h0] at hoe
          have HOE := Lib.hid hoe
          clear hoe HO
          go_quiet (fail)
          rename_i nq _ _
          obtain ⟨w5, hw5⟩ : ∃ w5, w5 = w4.drewN nq := ⟨_, rfl⟩
          have hb45 : Below w4.heap.size w4 w5 := by rw [hw5]; exact ⟨rfl, rfl, rfl, Nat.le_refl _, fun _ _ => rfl⟩
          have HC5 := Lib.hid (push_any base m _ _ _ _ _ _ _ w5 (HM5.out.ext hb45) to _ _ (TrIn.keep (fun b q => hb45.block b (HM5.out.u b q).1) (fun _ q => q) HTR5.out) (by have := HNS.out; rw [List.length_take]; omega) (by have := HNT.out; rw [List.length_take]; omega))
          have HB6 := Lib.hid (HB5.out.trans (Fm.of hb45 HM5.out.blt))
          rw [← hw5]
          clear hw5 hb45 HM5 HTR5 HB5 u1 u3 u4 u5 uE t3 t7 t9
          go_wp2_with fail
          refine HC5.out.mono ?_
          rintro e w6 ⟨rfl, hM6, hb6⟩
          have HM6 := Lib.hid hM6; have HB7 := Lib.hid hb6
          clear hM6 hb6
          go_wp2_with fail
          go_ret2
          rw [HOE.out]
          exact ⟨⟨rfl, HM6.out⟩, HB6.out.trans HB7.out⟩
theorem reduce_any (G : Gr) (Ap Al As : Option Addr) (np cp nl cl ns cs : Nat) (T : Tb) (Aa : Option Addr) (na ca : Nat) (Ag : Option Addr) (ng cg : Nat) (tc : Value) (w : World) (B base m : Nat) (sv tv : Value) (ss : List Int) (ts : List Tr) (vs : List Value) (U : Nat → Prop)
    (hM : MachV w base m (hdM G Ap Al As np cp nl cl ns cs (.slice Aa na ca) (.slice Ag ng cg) tc) sv tv ss ts vs U) (hB : B ≤ w.heap.size) (hBb : B ≤ base) (hG : GrIn w B G Ap Al As np cp nl cl ns cs) (hT : TbIn w B T Aa na ca Ag ng cg) (hf : TFits G T) (hs : StOk G T (ss, ts)) (hlen : ts.length ≤ 100000000) (E : Nat → Addr) (hE : ErW w B E) (p : Int) (hp0 : 0 ≤ p) (hp1 : p < G.prods.length) :
    Calls Tryd.prog 56 #[.pointer (some ⟨m, 0, none⟩), .agg #[.int .i64 2, .int .i64 p]] w (RedEnd w base m (hdM G Ap Al As np cp nl cl ns cs (.slice Aa na ca) (.slice Ag ng cg) tc) E (redP G T (ss, ts) p)) := by
  by_cases h : ts.length < (prodAt G p).2.1.length
  · rw [redP_no h]
    exact reduce_more G Ap Al As np cp nl cl ns cs T Aa na ca Ag ng cg tc w B base m sv tv ss ts vs U hM hB hG hf E hE p hp0 hp1 h
  · exact reduce_less G Ap Al As np cp nl cl ns cs T Aa na ca Ag ng cg tc w B base m sv tv ss ts vs U hM hB hBb hG hT hf hs hlen E hE p hp0 hp1 (ts.length - (prodAt G p).2.1.length) (by omega)
end Go.Proofs.YtinejiodnnjpgaaDoor
