/- The document's settle. · The machine's take: one terminal is shifted; and what holds of a state behind an accept. -/
import Derived.Test.YtinejiodnnjpgaaDoorQ19
import Derived.Test.YtinejiodnnjpgaaDoorQ20
import Derived.Test.YtinejiodnnjpgaaDoorQ11
namespace Go.Proofs.YtinejiodnnjpgaaDoor
open Go.RowKit BigFrame
set_option linter.unusedVariables false
set_option linter.unusedSimpArgs false
set_option maxRecDepth 100000

/-- What the document's settle answers. -/
def RsEnd (w : World) (base : Nat) (E : Nat → Addr) (r : Except Nat (St × Int)) (e : Ending) (w' : World) : Prop :=
  (match r with
    | .error c => ∃ A n c1 A2 n2 c2, e = .returned (.tuple #[.agg #[.slice A n c1, .slice A2 n2 c2], .int .i64 0, ew (E c)])
    | .ok (st', to) => ∃ A n c1 A2 n2 c2, e = .returned (.tuple #[.agg #[.slice A n c1, .slice A2 n2 c2], .int .i64 to, .nilIface]) ∧ StI w' base (.agg #[.slice A n c1, .slice A2 n2 c2]) st') ∧ Below w.heap.size w w'
/-- The box of x and what it holds. -/
def XBox (w : World) (base y : Nat) (st : St) : Prop := ∃ A n c1 A2 n2 c2 vs U, Blk w y 97 [.slice A n c1, .slice A2 n2 c2] ∧ StV w base (.slice A n c1) (.slice A2 n2 c2) st.1 st.2 vs U
theorem stv_forms {w : World} {base : Nat} {sv tv : Value} {ss : List Int} {ts : List Tr} {vs : List Value} {U : Nat → Prop} (h : StV w base sv tv ss ts vs U) : ∃ A c1 A2 c2, sv = .slice A ss.length c1 ∧ tv = .slice A2 ts.length c2 ∧ ss.length ≤ c1 ∧ c1 ≤ maxLen ∧ ts.length ≤ c2 ∧ c2 ≤ maxLen := by
  obtain ⟨A, c1, e1, h1, h2, -⟩ := own_form h.s
  obtain ⟨A2, c2, e2, h3, h4, -⟩ := own_form h.t
  exact ⟨A, c1, A2, c2, e1, e2, h1, h2, h3, h4⟩

set_option maxHeartbeats 4000000 in
theorem rsettle_any (G : Gr) (Ap Al As : Option Addr) (np cp nl cl ns cs : Nat) (T : Tb) (Aa : Option Addr) (na ca : Nat) (Ag : Option Addr) (ng cg : Nat) (tc : Value) (w : World) (B base : Nat) (sv tv : Value) (st : St)
    (hS : StI w base (.agg #[sv, tv]) st) (hB : B ≤ w.heap.size) (hbase : base ≤ w.heap.size) (hG : GrIn w B G Ap Al As np cp nl cl ns cs) (hT : TbIn w B T Aa na ca Ag ng cg) (hf : TFits G T) (hs : StOk G T st) (hlen : st.2.length ≤ 90000000) (E : Nat → Addr) (hE : ErW w B E) (term : Int) (h0 : 0 ≤ term) (h1 : term ≤ G.terms) :
    Calls Tryd.prog 42 #[.agg #[.int .i64 G.terms, .int .i64 G.names, .int .i64 G.start, .slice Ap np cp, .slice Al nl cl, .slice As ns cs], .agg #[.slice Aa na ca, .slice Ag ng cg, tc], .agg #[sv, tv], .int .i64 term] w (RsEnd w base E (settleP G T term 10000 st)) := by
  obtain ⟨R, hR⟩ : ∃ R, R = settleP G T term 10000 st := ⟨_, rfl⟩
  rw [← hR]
  obtain ⟨sv', tv', vs, U, e, hS⟩ := hS
  cases e
  obtain ⟨A, c1, A2, c2, rfl, rfl, g1, g2, g3, g4⟩ := stv_forms hS
  obtain ⟨w1, hw1, hb1, hz1, gb1, bt, bs, br⟩ := gtsbox w G Ap Al As np cp nl cl ns cs (.slice Aa na ca) (.slice Ag ng cg) tc (.slice A st.1.length c1) (.slice A2 st.2.length c2)
  have hX1 : XBox w1 base (w.heap.size + 1 + 1) st := ⟨_, _, _, _, _, _, vs, U, bs, hS.ext hb1⟩
  have HT := Lib.hid (hT.below (hb1.mono hB)); have HG := Lib.hid (hG.below (hb1.mono hB)); have HE := Lib.hid (hE.below (hb1.mono hB)); have HB1 := Lib.hid hb1; have HX1 := Lib.hid hX1; have HR := Lib.hid hR; have HS := Lib.hid hs; have HGB := Lib.hid gb1; have HBT := Lib.hid bt; have HBR := Lib.hid br; have HL := Lib.hid hlen; have HF := Lib.hid hf
  clear hT hG hE hb1 hX1 hR hs gb1 bt bs br hlen hf hS
  go_enter Tryd.func42, Tryd.ntmps42
  go_wp2_with fail
  rw [← hw1]
  clear hw1
  go_loopw [11] (fun i wr => ∃ (k : Nat) (s : St), k ≤ 10000 ∧ i = .int .i64 (k : Int) ∧ Hid (settleP G T term (10000 - k) s = R) ∧ Hid (StOk G T s) ∧ Hid (XBox wr base (w.heap.size + 1 + 1) s) ∧ Hid (s.2.length ≤ st.2.length + k) ∧ Hid (Kp (fun j => j = w.heap.size + 1 + 1) w1 wr)) (fun i _ => 10001 - (intOf i).toNat)
  case atStart => exact ⟨0, st, by omega, rfl, HR.out.symm, HS.out, HX1.out, Nat.le_refl _, Kp.refl _ _⟩
  case round =>
    as_aux_lemma =>
      obtain ⟨k, s, hk, rfl, HRk, HSk, HXk, HLk, HKk⟩ := hrel
      obtain ⟨ss, ts⟩ := s
      obtain ⟨Ax, nx, cx, Ay, ny, cy, vs, U, hbx, hvx⟩ := HXk.out
      have hszr : w1.heap.size ≤ wr.heap.size := HKk.out.size
      have hbw : Below w1.heap.size w1 w1 := Below.refl _ _
      have hbr : Below w.heap.size w wr := HB1.out.trans (HKk.out.bel (by omega) (fun j hj e => by omega))
      have hBr : B ≤ wr.heap.size := by omega
      have hT := HT.out.below (HKk.out.bel (B := B) (by omega) (fun j hj e => by omega))
      have hG := HG.out.below (HKk.out.bel (B := B) (by omega) (fun j hj e => by omega))
      have hE := HE.out.below (HKk.out.bel (B := B) (by omega) (fun j hj e => by omega))
      obtain ⟨a1, a2, hA⟩ : ∃ a1 a2, actAt T (topS (ss, ts)) term = (a1, a2) := ⟨_, _, rfl⟩
      have hfit := act_fit HF.out HSk.out.top.1 HSk.out.top.2 h0 h1
      obtain ⟨sb, cs', s, ab, ao, rb, ro, n1, c1', k', rfl, hk', q1, q2, e1, q3, q4, hsb, y1, hsn, rfl, hab, y2, hrb, y3, y4, q5, q6⟩ := act_road hvx.s hT HF.out h0 h1 HSk.out
      rw [hA] at hfit y3 y4
      simp only [Value.slice.injEq] at e1
      obtain ⟨rfl, rfl, rfl⟩ := e1
      unfold maxLen at q2 q4 q6
      have hbt : Blk wr (w.heap.size + 1) 47 [.slice (some ⟨ab, ao, none⟩) na ca, .slice Ag ng cg, tc] := (HKk.out.block _ (by omega) (by omega)).trans HBT.out
      have k1 : wr.cell? ⟨w.heap.size + 1, 0, none⟩ = some (.slice (some ⟨ab, ao, none⟩) na ca) := hbt.cell rfl
      have k2 : wr.cell? ⟨w.heap.size + 1 + 1, 0, none⟩ = some (.slice (some ⟨sb, 0, none⟩) (ts.length + 1) cx) := hbx.cell rfl
      have l1 : ab < wr.heap.size := by omega
      have l2 : rb < wr.heap.size := by omega
      have l3 := hbx.lt
      have l4 := hbt.lt
      have l5 : ts.length ≤ 100000000 := by have h1 := HLk.out; have h2 := HL.out; simp only at h1; omega
      have HFIT := Lib.hid hfit; have HA := Lib.hid hA; have HVX := Lib.hid hvx; have HBX := Lib.hid hbx; have HTr := Lib.hid hT; have HGr := Lib.hid hG; have HEr := Lib.hid hE; have HBRW := Lib.hid hbr
      clear hfit hA hvx hbx hT hG hE hbr hbt HXk h0 h1 hbw
      go_wp2_with fail
      go_region
      obtain ⟨w2, hw2⟩ : ∃ w2, w2 = (wr.alloc (.cells #[.int .i64 a1, .int .i64 a2] 82)).drew := ⟨_, rfl⟩
      rw [← hw2]
      have hb2 : Below wr.heap.size wr w2 := by rw [hw2]; exact (show Below wr.heap.size wr _ from (Below.refl _ _).alloc (Nat.le_refl _) _).trans ⟨rfl, rfl, rfl, Nat.le_refl _, fun _ _ => rfl⟩
      have hka : Blk w2 wr.heap.size 82 [.int .i64 a1, .int .i64 a2] := by rw [hw2]; exact Blk.new wr 82 [.int .i64 a1, .int .i64 a2]
      clear hw2 k1 k2 y1 y2 y3 y4
      have hvx := HVX.out.ext hb2
      have hbx := HBX.out.below' hb2
      have hbr : Blk w2 (w.heap.size + 1 + 1 + 1) 97 [.slice none 0 0, .slice none 0 0] := Blk.below' ((HKk.out.block _ (by omega) (by omega)).trans HBR.out) hb2
      have hgb : GrBox w2 w.heap.size G Ap Al As np cp nl cl ns cs := by
        have h1 : ∀ o, w2.cell? ⟨w.heap.size, o, none⟩ = w1.cell? ⟨w.heap.size, o, none⟩ := fun o => (hb2.cell (p := ⟨w.heap.size, o, none⟩) (by show w.heap.size < _; omega)).trans (HKk.out.cell (p := ⟨w.heap.size, o, none⟩) (by show w.heap.size < _; omega) (by show ¬ w.heap.size = _; omega))
        exact ⟨(h1 0).trans HGB.out.c0, (h1 1).trans HGB.out.c1, (h1 2).trans HGB.out.c2, (h1 3).trans HGB.out.c3, (h1 4).trans HGB.out.c4, (h1 5).trans HGB.out.c5⟩
      have hbt : Blk w2 (w.heap.size + 1) 47 [.slice (some ⟨ab, ao, none⟩) na ca, .slice Ag ng cg, tc] := Blk.below' ((HKk.out.block _ (by omega) (by omega)).trans HBT.out) hb2
      have hT2 := HTr.out.below (hb2.mono hBr); have hG2 := HGr.out.below (hb2.mono hBr); have hE2 := HEr.out.below (hb2.mono hBr)
      have hz2 := hb2.size
      have hB2 : B ≤ w2.heap.size := by omega
      have HB2 : Hid (Below w.heap.size w w2) := Lib.hid (HBRW.out.trans (hb2.mono (by omega)))
      have HK2 : Hid (Kp (fun j => j = w.heap.size + 1 + 1) w1 w2) := Lib.hid (HKk.out.trans (Kp.of hb2))
      obtain ⟨Ay', cy', e2, q7, q8, -⟩ := own_form hvx.t
      simp only [Value.slice.injEq] at e2
      obtain ⟨rfl, rfl, rfl⟩ := e2
      unfold maxLen at q8
      have a0 := hka.cell (i := 0) rfl
      have a1' := hka.cell (i := 1) rfl
      have x0 := hbx.cell (i := 0) rfl
      have x1 := hbx.cell (i := 1) rfl
      have r0 := hbr.cell (i := 0) rfl
      have r1 := hbr.cell (i := 1) rfl
      have f0 := hbr.frozen 0
      have f1 := hbr.frozen 1
      have hzr := hbr.lt
      have HVX2 := Lib.hid hvx; have HBX2 := Lib.hid hbx; have HBR2 := Lib.hid hbr; have HGB2 := Lib.hid hgb; have HBT2 := Lib.hid hbt; have HT2 := Lib.hid hT2; have HG2 := Lib.hid hG2; have HE2 := Lib.hid hE2; have HKA := Lib.hid hka
      clear hvx hbx hbr hgb hbt hT2 hG2 hE2 hka hb2 HVX HBX HTr HGr HEr HBRW l1 l2 l3 l4 hab hrb hsb
      by_cases q0 : a1 = 0
      · as_aux_lemma =>
          subst q0
          have HRK : Hid (R = .error 6) := Lib.hid (by rw [← HRk.out]; exact settle_stop HA.out)
          have zE := HE2.out.g 6 (by omega)
          unfold evar at zE
          have hgE : 6 < w.heap.size := by have : 6 < B := HE.out.gl 6 (by omega); omega
          have hgE2 : 6 ≠ w.heap.size + 1 + 1 + 1 := by omega
          have hgE3 : w.heap.size + 1 + 1 + 1 ≠ 6 := by omega
          go_wp2_with fail
          go_region
          go_wp2_with fail
          have hk1 : Blk (w2.setCell ⟨w.heap.size + 1 + 1 + 1, 0, none⟩ (.slice (some ⟨sb, 0, none⟩) (ts.length + 1) cx)) (w.heap.size + 1 + 1 + 1) 97 [.slice (some ⟨sb, 0, none⟩) (ts.length + 1) cx, .slice none 0 0] := HBR2.out.set_ 0 _
          have hk2 : Blk ((w2.setCell ⟨w.heap.size + 1 + 1 + 1, 0, none⟩ (.slice (some ⟨sb, 0, none⟩) (ts.length + 1) cx)).setCell ⟨w.heap.size + 1 + 1 + 1, 1, none⟩ (.slice Ay ts.length cy)) (w.heap.size + 1 + 1 + 1) 97 [.slice (some ⟨sb, 0, none⟩) (ts.length + 1) cx, .slice Ay ts.length cy] := hk1.set_ 1 _
          refine bodyPost_ret (results_cell_tmp2_row rfl _ _ (w.heap.size + 1 + 1 + 1) _ #[.slice (some ⟨sb, 0, none⟩) (ts.length + 1) cx, .slice Ay ts.length cy] _ _ rfl hk2 Tryd.underlying97 rfl (by kernel_rfl)) rfl ?_
          have hfz : Below w.heap.size w ((w2.setCell ⟨w.heap.size + 1 + 1 + 1, 0, none⟩ (.slice (some ⟨sb, 0, none⟩) (ts.length + 1) cx)).setCell ⟨w.heap.size + 1 + 1 + 1, 1, none⟩ (.slice Ay ts.length cy)) := ((HB2.out).setCell (p := ⟨w.heap.size + 1 + 1 + 1, 0, none⟩) (by show _ ≤ w.heap.size + 1 + 1 + 1; omega) _).setCell (p := ⟨w.heap.size + 1 + 1 + 1, 1, none⟩) (by show _ ≤ w.heap.size + 1 + 1 + 1; omega) _
          rw [HRK.out]
          exact ⟨⟨_, _, _, _, _, _, rfl⟩, hfz.trans ⟨rfl, rfl, rfl, Nat.le_refl _, fun _ _ => rfl⟩⟩
      by_cases q1' : a1 = 1
      · as_aux_lemma =>
          subst q1'
          have HRK : Hid (R = .ok ((ss, ts), a2)) := Lib.hid (by rw [← HRk.out]; exact settle_shift HA.out)
          go_wp2_with fail
          go_region
          go_wp2_with fail
          have hk1 : Blk (w2.setCell ⟨w.heap.size + 1 + 1 + 1, 0, none⟩ (.slice (some ⟨sb, 0, none⟩) (ts.length + 1) cx)) (w.heap.size + 1 + 1 + 1) 97 [.slice (some ⟨sb, 0, none⟩) (ts.length + 1) cx, .slice none 0 0] := HBR2.out.set_ 0 _
          have hk2 : Blk ((w2.setCell ⟨w.heap.size + 1 + 1 + 1, 0, none⟩ (.slice (some ⟨sb, 0, none⟩) (ts.length + 1) cx)).setCell ⟨w.heap.size + 1 + 1 + 1, 1, none⟩ (.slice Ay ts.length cy)) (w.heap.size + 1 + 1 + 1) 97 [.slice (some ⟨sb, 0, none⟩) (ts.length + 1) cx, .slice Ay ts.length cy] := hk1.set_ 1 _
          refine bodyPost_ret (results_cell_tmp2_row rfl _ _ (w.heap.size + 1 + 1 + 1) _ #[.slice (some ⟨sb, 0, none⟩) (ts.length + 1) cx, .slice Ay ts.length cy] _ _ rfl hk2 Tryd.underlying97 rfl (by kernel_rfl)) rfl ?_
          have hfz : Below w.heap.size w ((w2.setCell ⟨w.heap.size + 1 + 1 + 1, 0, none⟩ (.slice (some ⟨sb, 0, none⟩) (ts.length + 1) cx)).setCell ⟨w.heap.size + 1 + 1 + 1, 1, none⟩ (.slice Ay ts.length cy)) := ((HB2.out).setCell (p := ⟨w.heap.size + 1 + 1 + 1, 0, none⟩) (by show _ ≤ w.heap.size + 1 + 1 + 1; omega) _).setCell (p := ⟨w.heap.size + 1 + 1 + 1, 1, none⟩) (by show _ ≤ w.heap.size + 1 + 1 + 1; omega) _
          rw [HRK.out]
          have hv2 := (HVX2.out.far (p := ⟨w.heap.size + 1 + 1 + 1, 0, none⟩) HBR2.out (by decide) (by decide) (by decide) (.slice (some ⟨sb, 0, none⟩) (ts.length + 1) cx)).far (p := ⟨w.heap.size + 1 + 1 + 1, 1, none⟩) hk1 (by decide) (by decide) (by decide) (.slice Ay ts.length cy)
          exact ⟨⟨_, _, _, _, _, _, rfl, _, _, _, _, rfl, hv2.ext ⟨rfl, rfl, rfl, Nat.le_refl _, fun _ _ => rfl⟩⟩, hfz.trans ⟨rfl, rfl, rfl, Nat.le_refl _, fun _ _ => rfl⟩⟩
      by_cases q3' : a1 = 3
      · as_aux_lemma =>
          subst q3'
          have ha20 : a2 = 0 := by
            rcases HFIT.out with q | q | q | q
            · exact absurd q.1 (by simp)
            · exact q.2.1
            · exact absurd q.1 (by simp)
            · exact absurd q.1 (by simp)
          subst ha20
          have zE := HE2.out.g 2 (by omega)
          unfold evar at zE
          have hgE : 2 < w.heap.size := by have : 2 < B := HE.out.gl 2 (by omega); omega
          have hgE2 : 2 ≠ w.heap.size + 1 + 1 + 1 := by omega
          have hgE3 : w.heap.size + 1 + 1 + 1 ≠ 2 := by omega
          by_cases hl1 : ts.length = 1
          rotate_left
          · as_aux_lemma =>
              have d1 : ((ts.length : Int) != (1 : Int)) = true := by simp; omega
              have HRK : Hid (R = .error 2) := Lib.hid (by rw [← HRk.out]; exact settle_nacc HA.out (fun h => hl1 h.1))
              clear hl1
              go_wp2_with fail
              go_quiet (fail)
              rename_i nq _ _
              go_wp2_with fail
              go_region
              go_wp2_with fail
              have hk1 : Blk ((w2.drewN (nq + 1)).setCell ⟨w.heap.size + 1 + 1 + 1, 0, none⟩ (.slice (some ⟨sb, 0, none⟩) (ts.length + 1) cx)) (w.heap.size + 1 + 1 + 1) 97 [.slice (some ⟨sb, 0, none⟩) (ts.length + 1) cx, .slice none 0 0] := HBR2.out.set_ 0 _
              have hk2 : Blk (((w2.drewN (nq + 1)).setCell ⟨w.heap.size + 1 + 1 + 1, 0, none⟩ (.slice (some ⟨sb, 0, none⟩) (ts.length + 1) cx)).setCell ⟨w.heap.size + 1 + 1 + 1, 1, none⟩ (.slice Ay ts.length cy)) (w.heap.size + 1 + 1 + 1) 97 [.slice (some ⟨sb, 0, none⟩) (ts.length + 1) cx, .slice Ay ts.length cy] := hk1.set_ 1 _
              refine bodyPost_ret (results_cell_tmp2_row rfl _ _ (w.heap.size + 1 + 1 + 1) _ #[.slice (some ⟨sb, 0, none⟩) (ts.length + 1) cx, .slice Ay ts.length cy] _ _ rfl hk2 Tryd.underlying97 rfl (by kernel_rfl)) rfl ?_
              have hfz : Below w.heap.size w (((w2.drewN (nq + 1)).setCell ⟨w.heap.size + 1 + 1 + 1, 0, none⟩ (.slice (some ⟨sb, 0, none⟩) (ts.length + 1) cx)).setCell ⟨w.heap.size + 1 + 1 + 1, 1, none⟩ (.slice Ay ts.length cy)) := ((HB2.out.trans (bel_dn w2 _ _)).setCell (p := ⟨w.heap.size + 1 + 1 + 1, 0, none⟩) (by show _ ≤ w.heap.size + 1 + 1 + 1; omega) _).setCell (p := ⟨w.heap.size + 1 + 1 + 1, 1, none⟩) (by show _ ≤ w.heap.size + 1 + 1 + 1; omega) _
              rw [HRK.out]
              exact ⟨⟨_, _, _, _, _, _, rfl⟩, hfz.trans ⟨rfl, rfl, rfl, Nat.le_refl _, fun _ _ => rfl⟩⟩
          obtain ⟨tb, ct, nb, p, tok, ks, hts, hp, e1, g1', g2', g3', y1, g4', y2⟩ := one_tree HVX2.out.t HVX2.out.tr (fun b q => (HVX2.out.u b q).1) HSk.out hl1
          simp only [Value.slice.injEq] at e1
          obtain ⟨hAy, -, -⟩ := e1
          subst hAy
          have d1 : ((ts.length : Int) != (1 : Int)) = false := by simp; omega
          have h0l : 0 < ts.length := by omega
          have HTS := Lib.hid hts
          clear hl1 hts g1' g2'
          by_cases hpn : p < 0
          · as_aux_lemma =>
              have HRK : Hid (R = .error 2) := Lib.hid (by rw [← HRk.out]; exact settle_nacc HA.out (fun h => by rw [HTS.out] at h; have := (accP_one.1 h).1; omega))
              have d2 : decide (p < 0) = true := by simpa using hpn
              clear hpn
              go_wp2_with fail
              go_quiet (fail)
              rename_i nq _ _
              go_wp2_with fail
              go_region
              go_wp2_with fail
              have hk1 : Blk ((w2.drewN (nq + 1)).setCell ⟨w.heap.size + 1 + 1 + 1, 0, none⟩ (.slice (some ⟨sb, 0, none⟩) (ts.length + 1) cx)) (w.heap.size + 1 + 1 + 1) 97 [.slice (some ⟨sb, 0, none⟩) (ts.length + 1) cx, .slice none 0 0] := HBR2.out.set_ 0 _
              have hk2 : Blk (((w2.drewN (nq + 1)).setCell ⟨w.heap.size + 1 + 1 + 1, 0, none⟩ (.slice (some ⟨sb, 0, none⟩) (ts.length + 1) cx)).setCell ⟨w.heap.size + 1 + 1 + 1, 1, none⟩ (.slice (some ⟨tb, 0, none⟩) ts.length cy)) (w.heap.size + 1 + 1 + 1) 97 [.slice (some ⟨sb, 0, none⟩) (ts.length + 1) cx, .slice (some ⟨tb, 0, none⟩) ts.length cy] := hk1.set_ 1 _
              refine bodyPost_ret (results_cell_tmp2_row rfl _ _ (w.heap.size + 1 + 1 + 1) _ #[.slice (some ⟨sb, 0, none⟩) (ts.length + 1) cx, .slice (some ⟨tb, 0, none⟩) ts.length cy] _ _ rfl hk2 Tryd.underlying97 rfl (by kernel_rfl)) rfl ?_
              have hfz : Below w.heap.size w (((w2.drewN (nq + 1)).setCell ⟨w.heap.size + 1 + 1 + 1, 0, none⟩ (.slice (some ⟨sb, 0, none⟩) (ts.length + 1) cx)).setCell ⟨w.heap.size + 1 + 1 + 1, 1, none⟩ (.slice (some ⟨tb, 0, none⟩) ts.length cy)) := ((HB2.out.trans (bel_dn w2 _ _)).setCell (p := ⟨w.heap.size + 1 + 1 + 1, 0, none⟩) (by show _ ≤ w.heap.size + 1 + 1 + 1; omega) _).setCell (p := ⟨w.heap.size + 1 + 1 + 1, 1, none⟩) (by show _ ≤ w.heap.size + 1 + 1 + 1; omega) _
              rw [HRK.out]
              exact ⟨⟨_, _, _, _, _, _, rfl⟩, hfz.trans ⟨rfl, rfl, rfl, Nat.le_refl _, fun _ _ => rfl⟩⟩
          obtain ⟨pn, rfl⟩ := Int.eq_ofNat_of_zero_le (show 0 ≤ p by omega)
          obtain ⟨hpl, hpm⟩ := HG2.out.p.len
          obtain ⟨pb, po, rfl, hpb, hpc⟩ := HG2.out.p.at_ (by omega)
          obtain ⟨xl, rl, yl, A', n', c', z0, z1, z2, z3, z4, z5, z6, z7⟩ := hpc pn (by omega)
          have hx := prodAt_of z0
          unfold maxLen at hpm
          have d2 : decide ((pn : Int) < 0) = false := by simp
          have c3 := HGB2.out.c3
          have c2 := HGB2.out.c2
          have hpn' : pn < np := by omega
          have HX := Lib.hid hx
          clear hpc z0 z2 z3 z4 z5 z6 z7 hx hpl hp hpn
          by_cases h3 : xl = G.start
          · as_aux_lemma =>
              have HRK : Hid (R = .ok ((ss, ts), 0)) := Lib.hid (by rw [← HRk.out]; exact settle_acc HA.out (by rw [HTS.out]; exact accP_one.2 ⟨by omega, by rw [HX.out]; exact h3⟩))
              have d3 : (xl != G.start) = false := by simpa using h3
              clear h3
              go_wp2_with fail
              go_quiet (fail)
              rename_i nq _ _
              go_wp2_with fail
              have hk1 : Blk ((w2.drewN nq).setCell ⟨w.heap.size + 1 + 1 + 1, 0, none⟩ (.slice (some ⟨sb, 0, none⟩) (ts.length + 1) cx)) (w.heap.size + 1 + 1 + 1) 97 [.slice (some ⟨sb, 0, none⟩) (ts.length + 1) cx, .slice none 0 0] := HBR2.out.set_ 0 _
              have hk2 : Blk (((w2.drewN nq).setCell ⟨w.heap.size + 1 + 1 + 1, 0, none⟩ (.slice (some ⟨sb, 0, none⟩) (ts.length + 1) cx)).setCell ⟨w.heap.size + 1 + 1 + 1, 1, none⟩ (.slice (some ⟨tb, 0, none⟩) ts.length cy)) (w.heap.size + 1 + 1 + 1) 97 [.slice (some ⟨sb, 0, none⟩) (ts.length + 1) cx, .slice (some ⟨tb, 0, none⟩) ts.length cy] := hk1.set_ 1 _
              refine bodyPost_ret (results_cell_tmp2_row rfl _ _ (w.heap.size + 1 + 1 + 1) _ #[.slice (some ⟨sb, 0, none⟩) (ts.length + 1) cx, .slice (some ⟨tb, 0, none⟩) ts.length cy] _ _ rfl hk2 Tryd.underlying97 rfl (by kernel_rfl)) rfl ?_
              have hfz : Below w.heap.size w (((w2.drewN nq).setCell ⟨w.heap.size + 1 + 1 + 1, 0, none⟩ (.slice (some ⟨sb, 0, none⟩) (ts.length + 1) cx)).setCell ⟨w.heap.size + 1 + 1 + 1, 1, none⟩ (.slice (some ⟨tb, 0, none⟩) ts.length cy)) := ((HB2.out.trans (bel_dn w2 _ _)).setCell (p := ⟨w.heap.size + 1 + 1 + 1, 0, none⟩) (by show _ ≤ w.heap.size + 1 + 1 + 1; omega) _).setCell (p := ⟨w.heap.size + 1 + 1 + 1, 1, none⟩) (by show _ ≤ w.heap.size + 1 + 1 + 1; omega) _
              rw [HRK.out]
              have hv2 := (HVX2.out.far (p := ⟨w.heap.size + 1 + 1 + 1, 0, none⟩) HBR2.out (by decide) (by decide) (by decide) (.slice (some ⟨sb, 0, none⟩) (ts.length + 1) cx)).far (p := ⟨w.heap.size + 1 + 1 + 1, 1, none⟩) hk1 (by decide) (by decide) (by decide) (.slice (some ⟨tb, 0, none⟩) ts.length cy)
              exact ⟨⟨_, _, _, _, _, _, rfl, _, _, _, _, rfl, hv2.ext ⟨rfl, rfl, rfl, Nat.le_refl _, fun _ _ => rfl⟩⟩, hfz.trans ⟨rfl, rfl, rfl, Nat.le_refl _, fun _ _ => rfl⟩⟩
          · as_aux_lemma =>
              have HRK : Hid (R = .error 2) := Lib.hid (by rw [← HRk.out]; exact settle_nacc HA.out (fun h => by rw [HTS.out] at h; exact h3 (by have := (accP_one.1 h).2; rw [HX.out] at this; exact this)))
              have d3 : (xl != G.start) = true := by simpa using h3
              clear h3
              go_wp2_with fail
              go_quiet (fail)
              rename_i nq _ _
              go_wp2_with fail
              go_region
              go_wp2_with fail
              have hk1 : Blk ((w2.drewN (nq + 1)).setCell ⟨w.heap.size + 1 + 1 + 1, 0, none⟩ (.slice (some ⟨sb, 0, none⟩) (ts.length + 1) cx)) (w.heap.size + 1 + 1 + 1) 97 [.slice (some ⟨sb, 0, none⟩) (ts.length + 1) cx, .slice none 0 0] := HBR2.out.set_ 0 _
              have hk2 : Blk (((w2.drewN (nq + 1)).setCell ⟨w.heap.size + 1 + 1 + 1, 0, none⟩ (.slice (some ⟨sb, 0, none⟩) (ts.length + 1) cx)).setCell ⟨w.heap.size + 1 + 1 + 1, 1, none⟩ (.slice (some ⟨tb, 0, none⟩) ts.length cy)) (w.heap.size + 1 + 1 + 1) 97 [.slice (some ⟨sb, 0, none⟩) (ts.length + 1) cx, .slice (some ⟨tb, 0, none⟩) ts.length cy] := hk1.set_ 1 _
              refine bodyPost_ret (results_cell_tmp2_row rfl _ _ (w.heap.size + 1 + 1 + 1) _ #[.slice (some ⟨sb, 0, none⟩) (ts.length + 1) cx, .slice (some ⟨tb, 0, none⟩) ts.length cy] _ _ rfl hk2 Tryd.underlying97 rfl (by kernel_rfl)) rfl ?_
              have hfz : Below w.heap.size w (((w2.drewN (nq + 1)).setCell ⟨w.heap.size + 1 + 1 + 1, 0, none⟩ (.slice (some ⟨sb, 0, none⟩) (ts.length + 1) cx)).setCell ⟨w.heap.size + 1 + 1 + 1, 1, none⟩ (.slice (some ⟨tb, 0, none⟩) ts.length cy)) := ((HB2.out.trans (bel_dn w2 _ _)).setCell (p := ⟨w.heap.size + 1 + 1 + 1, 0, none⟩) (by show _ ≤ w.heap.size + 1 + 1 + 1; omega) _).setCell (p := ⟨w.heap.size + 1 + 1 + 1, 1, none⟩) (by show _ ≤ w.heap.size + 1 + 1 + 1; omega) _
              rw [HRK.out]
              exact ⟨⟨_, _, _, _, _, _, rfl⟩, hfz.trans ⟨rfl, rfl, rfl, Nat.le_refl _, fun _ _ => rfl⟩⟩
      obtain ⟨q2', a20, a2n⟩ : a1 = 2 ∧ 0 ≤ a2 ∧ a2 < G.prods.length := by
        rcases HFIT.out with q | q | q | q
        · exact absurd q.1 q0
        · exact absurd q.1 q3'
        · exact absurd q.1 q1'
        · exact q
      subst q2'
      clear q0 q1' q3'
      by_cases hk9 : k = 10000
      · as_aux_lemma =>
          subst hk9
          have HRK : Hid (R = .error 1) := Lib.hid (by rw [← HRk.out]; exact settle_bound HA.out)
          have zE := HE2.out.g 1 (by omega)
          unfold evar at zE
          have hgE : 1 < w.heap.size := by have : 1 < B := HE.out.gl 1 (by omega); omega
          have hgE2 : 1 ≠ w.heap.size + 1 + 1 + 1 := by omega
          have hgE3 : w.heap.size + 1 + 1 + 1 ≠ 1 := by omega
          go_wp2_with fail
          go_region
          go_wp2_with fail
          have hk1 : Blk (w2.setCell ⟨w.heap.size + 1 + 1 + 1, 0, none⟩ (.slice (some ⟨sb, 0, none⟩) (ts.length + 1) cx)) (w.heap.size + 1 + 1 + 1) 97 [.slice (some ⟨sb, 0, none⟩) (ts.length + 1) cx, .slice none 0 0] := HBR2.out.set_ 0 _
          have hk2 : Blk ((w2.setCell ⟨w.heap.size + 1 + 1 + 1, 0, none⟩ (.slice (some ⟨sb, 0, none⟩) (ts.length + 1) cx)).setCell ⟨w.heap.size + 1 + 1 + 1, 1, none⟩ (.slice Ay ts.length cy)) (w.heap.size + 1 + 1 + 1) 97 [.slice (some ⟨sb, 0, none⟩) (ts.length + 1) cx, .slice Ay ts.length cy] := hk1.set_ 1 _
          refine bodyPost_ret (results_cell_tmp2_row rfl _ _ (w.heap.size + 1 + 1 + 1) _ #[.slice (some ⟨sb, 0, none⟩) (ts.length + 1) cx, .slice Ay ts.length cy] _ _ rfl hk2 Tryd.underlying97 rfl (by kernel_rfl)) rfl ?_
          have hfz : Below w.heap.size w ((w2.setCell ⟨w.heap.size + 1 + 1 + 1, 0, none⟩ (.slice (some ⟨sb, 0, none⟩) (ts.length + 1) cx)).setCell ⟨w.heap.size + 1 + 1 + 1, 1, none⟩ (.slice Ay ts.length cy)) := ((HB2.out).setCell (p := ⟨w.heap.size + 1 + 1 + 1, 0, none⟩) (by show _ ≤ w.heap.size + 1 + 1 + 1; omega) _).setCell (p := ⟨w.heap.size + 1 + 1 + 1, 1, none⟩) (by show _ ≤ w.heap.size + 1 + 1 + 1; omega) _
          rw [HRK.out]
          exact ⟨⟨_, _, _, _, _, _, rfl⟩, hfz.trans ⟨rfl, rfl, rfl, Nat.le_refl _, fun _ _ => rfl⟩⟩
      have hred := rred_any G Ap Al As np cp nl cl ns cs T (some ⟨ab, ao, none⟩) na ca Ag ng cg tc w2 B base (.slice (some ⟨sb, 0, none⟩) (ts.length + 1) cx) (.slice Ay ts.length cy) ss ts vs U HVX2.out hB2 (by omega) HG2.out HT2.out HF.out HSk.out l5 E HE2.out a2 a20 a2n
      have hsr := settle_red (G := G) (T := T) (f := 10000 - (k + 1)) HA.out
      rw [show 10000 - (k + 1) + 1 = 10000 - k by omega, HRk.out] at hsr
      have HHK := Lib.hid hk9
      clear hk9
      have hk9 : ((k : Int) == 10000) = false := by have := HHK.out; simp; omega
      obtain ⟨c0, c1', c2, c3, c4, c5⟩ := HGB2.out
      have t0 := HBT2.out.cell (i := 0) rfl
      have t1 := HBT2.out.cell (i := 1) rfl
      have t2 := HBT2.out.cell (i := 2) rfl
      cases hro : redP G T (ss, ts) a2 with
      | none =>
        as_aux_lemma =>
          rw [hro] at hred hsr
          have HC : Hid (Calls Tryd.prog 58 #[.agg #[.int .i64 G.terms, .int .i64 G.names, .int .i64 G.start, .slice Ap np cp, .slice Al nl cl, .slice As ns cs], .agg #[.slice (some ⟨ab, ao, none⟩) na ca, .slice Ag ng cg, tc], .agg #[.slice (some ⟨sb, 0, none⟩) (ts.length + 1) cx, .slice Ay ts.length cy], .int .i64 a2] w2 fun e w' => e = .returned (.tuple #[.agg #[.slice (some ⟨sb, 0, none⟩) (ts.length + 1) cx, .slice Ay ts.length cy], ew (E 2)]) ∧ Below w2.heap.size w2 w') := Lib.hid (hred.mono fun e w' h => h)
          have HRK : Hid (R = .error 2) := Lib.hid hsr
          clear hred hsr hro
          go_wp2_with fail
          refine HC.out.mono ?_
          clear x0 x1 r0 r1 f0 f1 c0 c1' c2 c3 c4 c5 t0 t1 t2 a0 a1'
          rintro e w4 ⟨rfl, hb4⟩
          have HB4 := Lib.hid (HB2.out.trans (hb4.mono (by omega)))
          have HBR4 := Lib.hid (HBR2.out.below' hb4)
          have hbx4 := HBX2.out.below' hb4
          have x0 := hbx4.cell (i := 0) rfl
          have x1 := hbx4.cell (i := 1) rfl
          have r0 := HBR4.out.cell (i := 0) rfl
          have r1 := HBR4.out.cell (i := 1) rfl
          have f0 := HBR4.out.frozen 0
          have f1 := HBR4.out.frozen 1
          have hr4 := HBR4.out.lt
          have hx4 := hbx4.lt
          clear hb4 hbx4
          go_wp2_with fail
          have hk1 : Blk (w4.setCell ⟨w.heap.size + 1 + 1 + 1, 0, none⟩ (.slice (some ⟨sb, 0, none⟩) (ts.length + 1) cx)) (w.heap.size + 1 + 1 + 1) 97 [.slice (some ⟨sb, 0, none⟩) (ts.length + 1) cx, .slice none 0 0] := HBR4.out.set_ 0 _
          have hk2 : Blk ((w4.setCell ⟨w.heap.size + 1 + 1 + 1, 0, none⟩ (.slice (some ⟨sb, 0, none⟩) (ts.length + 1) cx)).setCell ⟨w.heap.size + 1 + 1 + 1, 1, none⟩ (.slice Ay ts.length cy)) (w.heap.size + 1 + 1 + 1) 97 [.slice (some ⟨sb, 0, none⟩) (ts.length + 1) cx, .slice Ay ts.length cy] := hk1.set_ 1 _
          have hk3 := hk2.alloc (.cells #[.slice (some ⟨sb, 0, none⟩) (ts.length + 1) cx, .slice Ay ts.length cy] 97)
          refine bodyPost_ret (results_cell_tmp2_row rfl _ _ (w.heap.size + 1 + 1 + 1) _ #[.slice (some ⟨sb, 0, none⟩) (ts.length + 1) cx, .slice Ay ts.length cy] _ _ rfl hk3 Tryd.underlying97 rfl (by kernel_rfl)) rfl ?_
          have hfz : Below w.heap.size w ((w4.setCell ⟨w.heap.size + 1 + 1 + 1, 0, none⟩ (.slice (some ⟨sb, 0, none⟩) (ts.length + 1) cx)).setCell ⟨w.heap.size + 1 + 1 + 1, 1, none⟩ (.slice Ay ts.length cy)) := ((HB4.out).setCell (p := ⟨w.heap.size + 1 + 1 + 1, 0, none⟩) (by show _ ≤ w.heap.size + 1 + 1 + 1; omega) _).setCell (p := ⟨w.heap.size + 1 + 1 + 1, 1, none⟩) (by show _ ≤ w.heap.size + 1 + 1 + 1; omega) _
          rw [HRK.out]
          exact ⟨⟨_, _, _, _, _, _, rfl⟩, hfz.alloc hfz.size _⟩
      | some st2 =>
        as_aux_lemma =>
          rw [hro] at hred hsr
          have HC : Hid (Calls Tryd.prog 58 #[.agg #[.int .i64 G.terms, .int .i64 G.names, .int .i64 G.start, .slice Ap np cp, .slice Al nl cl, .slice As ns cs], .agg #[.slice (some ⟨ab, ao, none⟩) na ca, .slice Ag ng cg, tc], .agg #[.slice (some ⟨sb, 0, none⟩) (ts.length + 1) cx, .slice Ay ts.length cy], .int .i64 a2] w2 fun e w' => (∃ v, e = .returned (.tuple #[v, .nilIface]) ∧ StI w' base v st2) ∧ Below w2.heap.size w2 w') := Lib.hid (hred.mono fun e w' h => h)
          have HRK : Hid (settleP G T (k' : Int) (10000 - (k + 1)) st2 = R) := Lib.hid hsr.symm
          have HST : Hid (StOk G T st2) := Lib.hid (HSk.out.red HF.out a20 a2n hro)
          have HLN : Hid (st2.2.length ≤ st.2.length + (k + 1)) := Lib.hid (by have h1 := red_len hro; have h2 := HLk.out; simp only at h1; omega)
          clear hred hsr hro
          go_wp2_with fail
          refine HC.out.mono ?_
          clear x0 x1 r0 r1 f0 f1 c0 c1' c2 c3 c4 c5 t0 t1 t2 a0 a1'
          rintro e w4 ⟨⟨v, rfl, sv4, tv4, vs4, U4, rfl, hv4⟩, hb4⟩
          obtain ⟨A5, c5, A6, c6, rfl, rfl, -, -, -, -⟩ := stv_forms hv4
          have hbx4 := HBX2.out.below' hb4
          have x0 := hbx4.cell (i := 0) rfl
          have x1 := hbx4.cell (i := 1) rfl
          have f0 := hbx4.frozen 0
          have f1 := hbx4.frozen 1
          have hx4 := hbx4.lt
          have hk1 : Blk (w4.setCell ⟨w.heap.size + 1 + 1, 0, none⟩ (.slice A5 st2.1.length c5)) (w.heap.size + 1 + 1) 97 [.slice A5 st2.1.length c5, .slice Ay ts.length cy] := hbx4.set_ 0 _
          have hk2 : Blk ((w4.setCell ⟨w.heap.size + 1 + 1, 0, none⟩ (.slice A5 st2.1.length c5)).setCell ⟨w.heap.size + 1 + 1, 1, none⟩ (.slice A6 st2.2.length c6)) (w.heap.size + 1 + 1) 97 [.slice A5 st2.1.length c5, .slice A6 st2.2.length c6] := hk1.set_ 1 _
          have hv6 := (hv4.far (p := ⟨w.heap.size + 1 + 1, 0, none⟩) hbx4 (by decide) (by decide) (by decide) (.slice A5 st2.1.length c5)).far (p := ⟨w.heap.size + 1 + 1, 1, none⟩) hk1 (by decide) (by decide) (by decide) (.slice A6 st2.2.length c6)
          have hk6 : Kp (fun j => j = w.heap.size + 1 + 1) w1 ((w4.setCell ⟨w.heap.size + 1 + 1, 0, none⟩ (.slice A5 st2.1.length c5)).setCell ⟨w.heap.size + 1 + 1, 1, none⟩ (.slice A6 st2.2.length c6)) := ((HK2.out.trans (Kp.of hb4)).set_ (p := ⟨w.heap.size + 1 + 1, 0, none⟩) (.inr rfl) _).set_ (p := ⟨w.heap.size + 1 + 1, 1, none⟩) (.inr rfl) _
          have HX6 : Hid (XBox (((w4.setCell ⟨w.heap.size + 1 + 1, 0, none⟩ (.slice A5 st2.1.length c5)).setCell ⟨w.heap.size + 1 + 1, 1, none⟩ (.slice A6 st2.2.length c6)).alloc (.cells #[.slice A5 st2.1.length c5, .slice A6 st2.2.length c6] 97)) base (w.heap.size + 1 + 1) st2) := Lib.hid ⟨_, _, _, _, _, _, _, _, hk2.alloc _, hv6.ext ((Below.refl _ _).alloc (Nat.le_refl _) _)⟩
          have HK6 : Hid (Kp (fun j => j = w.heap.size + 1 + 1) w1 (((w4.setCell ⟨w.heap.size + 1 + 1, 0, none⟩ (.slice A5 st2.1.length c5)).setCell ⟨w.heap.size + 1 + 1, 1, none⟩ (.slice A6 st2.2.length c6)).alloc (.cells #[.slice A5 st2.1.length c5, .slice A6 st2.2.length c6] 97))) := Lib.hid (hk6.alloc _)
          clear hk1 hk2 hv6 hk6 hb4 hbx4 hv4
          go_wp2_with fail
          go_roundw
          case rel => exact ⟨k + 1, st2, by have := HHK.out; omega, by go_num, HRK, HST, HX6, HLN, HK6⟩
          case measure => have := HHK.out; simp [intOf]; omega
end Go.Proofs.YtinejiodnnjpgaaDoor
namespace Go.Proofs.YtinejiodnnjpgaaDoor
open Go.RowKit BigFrame
set_option linter.unusedVariables false
set_option linter.unusedSimpArgs false
set_option maxRecDepth 100000

/-- What take answers. -/
def TakeEnd (w : World) (base m : Nat) (hd : List Value) (E : Nat → Addr) (r : Except Nat St) (e : Ending) (w' : World) : Prop :=
  (match r with
    | .error c => e = .returned (ew (E c))
    | .ok st' => e = .returned .nilIface ∧ Mach w' base m hd st') ∧ Fm base w w'
theorem take_out {G : Gr} {T : Tb} {term : Int} {i : Nat} {st : St} (h : term < 0 ∨ G.terms ≤ term) : takeP G T term i st = .error 6 := by unfold takeP; rw [if_pos h]
theorem take_err {G : Gr} {T : Tb} {term : Int} {i c : Nat} {st : St} (h : ¬ (term < 0 ∨ G.terms ≤ term)) (hs : settleP G T term 10000 st = .error c) : takeP G T term i st = .error c := by unfold takeP; rw [if_neg h, hs]
theorem take_yes {G : Gr} {T : Tb} {term to : Int} {i : Nat} {st st' : St} (h : ¬ (term < 0 ∨ G.terms ≤ term)) (hs : settleP G T term 10000 st = .ok (st', to)) : takeP G T term i st = .ok (st'.1 ++ [to], st'.2 ++ [.node (-1) i []]) := by unfold takeP; rw [if_neg h, hs]
/-- A leaf laid anew. -/
theorem MachV.leaf {w : World} {base m : Nat} {hd : List Value} {sv tv : Value} {ss : List Int} {ts : List Tr} {vs : List Value} {U : Nat → Prop} (h : MachV w base m hd sv tv ss ts vs U) (i : Nat) :
    ∃ U', MachV (w.alloc (.cells #[.int .i64 (-1), .int .i64 (i : Int), .slice none 0 0] 68)) base m hd sv tv ss ts vs U' ∧ TrIn (w.alloc (.cells #[.int .i64 (-1), .int .i64 (i : Int), .slice none 0 0] 68)) U' (.pointer (some ⟨w.heap.size, 0, none⟩)) (.node (-1) i []) := by
  have hb : Below w.heap.size w (w.alloc (.cells #[.int .i64 (-1), .int .i64 (i : Int), .slice none 0 0] 68)) := (Below.refl _ _).alloc (Nat.le_refl _) _
  have hk : Blk (w.alloc (.cells #[.int .i64 (-1), .int .i64 (i : Int), .slice none 0 0] 68)) w.heap.size 68 [.int .i64 (-1), .int .i64 (i : Int), .slice none 0 0] := Blk.new w 68 [.int .i64 (-1), .int .i64 (i : Int), .slice none 0 0]
  have h2 := h.ext hb
  refine ⟨fun b => U b ∨ b = w.heap.size, h2.more (fun b q => ?_) (fun b q => .inl q), node_mk (base' := 0) (us := []) (S := U) hk (World.ownsRow_nil _ _ _ _) (fun i t ht => by simp at ht) (fun b q => ?_)⟩
  · rcases q with q | rfl
    · exact .inl q
    · refine .inr ⟨⟨hk.lt, fun e => ?_, fun e => ?_, fun e => ?_⟩, ⟨_, _, _, hk, .inl rfl⟩⟩
      · have := h.lt; omega
      · have := (h.s.lt _ e).2; omega
      · have := (h.t.lt _ e).2; omega
  · rcases q with q | q | q
    · exact .inl q
    · exact .inr q
    · cases q

set_option maxHeartbeats 2000000 in
theorem take_any (G : Gr) (Ap Al As : Option Addr) (np cp nl cl ns cs : Nat) (T : Tb) (Aa : Option Addr) (na ca : Nat) (Ag : Option Addr) (ng cg : Nat) (tc : Value) (w : World) (B base m : Nat) (st : St)
    (hM : Mach w base m (hdM G Ap Al As np cp nl cl ns cs (.slice Aa na ca) (.slice Ag ng cg) tc) st) (hB : B ≤ w.heap.size) (hBb : B ≤ base) (hG : GrIn w B G Ap Al As np cp nl cl ns cs) (hT : TbIn w B T Aa na ca Ag ng cg) (hf : TFits G T) (hs : StOk G T st) (hlen : st.2.length ≤ 80000000) (E : Nat → Addr) (hE : ErW w B E) (term : Int) (i : Nat) :
    Calls Tryd.prog 36 #[.pointer (some ⟨m, 0, none⟩), .int .i64 term, .int .i64 (i : Int)] w (TakeEnd w base m (hdM G Ap Al As np cp nl cl ns cs (.slice Aa na ca) (.slice Ag ng cg) tc) E (takeP G T term i st)) := by
  obtain ⟨R, hR⟩ : ∃ R, R = takeP G T term i st := ⟨_, rfl⟩
  obtain ⟨hd, hhd⟩ : ∃ hd, hd = hdM G Ap Al As np cp nl cl ns cs (.slice Aa na ca) (.slice Ag ng cg) tc := ⟨_, rfl⟩
  have zE := hE.g 6 (by omega)
  unfold evar at zE
  have z0 : w.cell? ⟨m, 0, none⟩ = some (.int .i64 G.terms) := by obtain ⟨_, _, _, _, h⟩ := hM; exact h.b.cell rfl
  by_cases h0 : term < 0
  · as_aux_lemma =>
      have HR : Hid (R = .error 6) := Lib.hid (by rw [hR]; exact take_out (.inl h0))
      rw [← hR, ← hhd]
      have d0 : decide (term < 0) = true := by simpa using h0
      clear hR hhd hM hG hT hf hs hlen hE
      go_enter Tryd.func36, Tryd.ntmps36
      go_wp2_with fail
      go_ret
      rw [HR.out]
      exact ⟨rfl, Fm.refl _ _⟩
  have d0 : decide (term < 0) = false := by simpa using h0
  by_cases h1 : G.terms ≤ term
  · as_aux_lemma =>
      have HR : Hid (R = .error 6) := Lib.hid (by rw [hR]; exact take_out (.inr h1))
      rw [← hR, ← hhd]
      clear hR hhd hM hG hT hf hs hlen hE
      go_enter Tryd.func36, Tryd.ntmps36
      go_wp2_with fail
      go_ret
      rw [HR.out]
      exact ⟨rfl, Fm.refl _ _⟩
  have hn : ¬ (term < 0 ∨ G.terms ≤ term) := by omega
  have hbase : base ≤ w.heap.size := by obtain ⟨_, _, _, _, h⟩ := hM; exact h.blt
  have HC := Lib.hid (settle_any G Ap Al As np cp nl cl ns cs T Aa na ca Ag ng cg tc w B base m st hM hB hBb hG hT hf hs (by omega) E hE term (by omega) (by omega))
  rw [← hhd] at HC
  cases hsr : settleP G T term 10000 st with
  | error c =>
    as_aux_lemma =>
      have HR : Hid (R = .error c) := Lib.hid (by rw [hR]; exact take_err hn hsr)
      rw [hsr] at HC
      rw [← hR, ← hhd]
      clear hR hhd hM hG hT hf hs hlen hE hsr
      go_enter Tryd.func36, Tryd.ntmps36
      go_wp2_with fail
      refine HC.out.mono ?_
      rintro e w1 ⟨⟨a, b, rfl⟩, hF⟩
      have HF := Lib.hid hF
      have hz := hF.bel.size
      clear hF
      go_wp2_with fail
      go_ret
      rw [HR.out]
      exact ⟨rfl, HF.out.trans (Fm.of ((Below.refl _ _).alloc (Nat.le_refl _) _) (by omega))⟩
  | ok q =>
    obtain ⟨st', to⟩ := q
    as_aux_lemma =>
      have HR : Hid (R = .ok (st'.1 ++ [to], st'.2 ++ [.node (-1) i []])) := Lib.hid (by rw [hR]; exact take_yes hn hsr)
      obtain ⟨hs', hl', -, -⟩ := settle_ok hf (by omega) (by omega) 10000 st st' to hs hsr
      have HS' := Lib.hid hs'.l
      have HL' : Hid (st'.2.length ≤ 90000000) := Lib.hid (by omega)
      rw [hsr] at HC
      rw [← hR, ← hhd]
      clear hR hhd hM hG hT hf hs hlen hE hsr hs' hl'
      go_enter Tryd.func36, Tryd.ntmps36
      go_wp2_with fail
      refine HC.out.mono ?_
      rintro e w1 ⟨⟨a, rfl, hM1⟩, hF1⟩
      obtain ⟨sv, tv, vs, U, hM1⟩ := hM1
      have hbase1 := hM1.blt
      obtain ⟨w2, hw2⟩ : ∃ w2, w2 = w1.alloc (.cells #[.int .i64 a, .int .i64 to] 82) := ⟨_, rfl⟩
      have hb2 : Below w1.heap.size w1 w2 := by rw [hw2]; exact (Below.refl _ _).alloc (Nat.le_refl _) _
      have hM2 := hM1.ext hb2
      obtain ⟨U', hM3, hu⟩ := hM2.leaf i
      have hs2 : w2.heap.size = w1.heap.size + 1 := by rw [hw2]; simp
      rw [hs2] at hu
      have HB2 : Hid (Fm base w (w2.alloc (.cells #[.int .i64 (-1), .int .i64 (i : Int), .slice none 0 0] 68))) := Lib.hid (hF1.trans (Fm.of (hb2.alloc hb2.size _) hbase1))
      have hl := HS'.out; have hl2 := HL'.out
      have HC2 := Lib.hid (push_any base m hd sv tv st'.1 st'.2 vs U' _ hM3 to _ _ hu (by omega) (by omega))
      clear hM1 hM2 hM3 hu hb2 hF1 hl hl2 hs2
      subst hw2
      go_wp2_with fail
      refine HC2.out.mono ?_
      rintro e w4 ⟨rfl, hM4, hF4⟩
      have HM4 := Lib.hid hM4; have HF4 := Lib.hid hF4
      clear hM4 hF4
      go_wp2_with fail
      go_ret
      rw [HR.out]
      exact ⟨⟨rfl, HM4.out⟩, HB2.out.trans HF4.out⟩

/-- Ahead of the end no shift: what is taken there is accepted. -/
theorem settle_end {G : Gr} {T : Tb} (hf : TFits G T) : ∀ (f : Nat) (st st' : St) (to : Int), StOk G T st → settleP G T G.terms f st = .ok (st', to) → accP G st' := by
  have ht : 0 ≤ G.terms := hf.ok.t0
  intro f
  induction f with
  | zero =>
    intro st st' to h e
    have ha := act_fit hf h.top.1 h.top.2 ht (Int.le_refl _)
    unfold settleP at e
    unfold fitA at ha
    split at e
    · cases e
    · split at e
      · simp at ha; omega
      · split at e
        · split at e
          · cases e; assumption
          · cases e
        · cases e
  | succ f ih =>
    intro st st' to h e
    have ha := act_fit hf h.top.1 h.top.2 ht (Int.le_refl _)
    unfold settleP at e
    unfold fitA at ha
    split at e
    · cases e
    · split at e
      · simp at ha; omega
      · split at e
        · split at e
          · cases e; assumption
          · cases e
        · simp only at e
          split at e
          · cases e
          · rename_i st2 hr
            simp at ha
            exact ih st2 st' to (h.red hf (by omega) (by omega) hr) e
end Go.Proofs.YtinejiodnnjpgaaDoor
