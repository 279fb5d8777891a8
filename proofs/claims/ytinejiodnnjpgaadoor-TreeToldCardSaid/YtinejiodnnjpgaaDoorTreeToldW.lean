/- The law TreeTold walked: it returns true. -/
import Derived.Test.YtinejiodnnjpgaaDoorTrZ
import Derived.Test.YtinejiodnnjpgaaDoorTrT
import Derived.Test.YtinejiodnnjpgaaDoorTrV
import Derived.Test.YtinejiodnnjpgaaDoorGrS
import Derived.Test.YtinejiodnnjpgaaDoorToL
namespace Go.Proofs.YtinejiodnnjpgaaDoor
open Go.RowKit BigFrame
set_option linter.unusedVariables false
set_option linter.unusedSimpArgs false
set_option maxRecDepth 100000

theorem gkeep {w0 w1 : World} {B g : Nat} {G : Gr} {Ap Al As : Option Addr} {np cp nl cl ns cs : Nat} (gb : GrBox w0 g G Ap Al As np cp nl cl ns cs) (hG : GrIn w0 B G Ap Al As np cp nl cl ns cs) (hb : Below (g + 1) w0 w1) (hB : B ≤ g + 1) : GrBox w1 g G Ap Al As np cp nl cl ns cs ∧ GrIn w1 B G Ap Al As np cp nl cl ns cs :=
  ⟨gb.below hb (Nat.lt_succ_self _), hG.below (hb.mono hB)⟩
theorem weight_size {Q : List Tw} (h : weightOf Q ≤ 500) : szT (treeOf Q) ≤ 500 := by
  unfold weightOf at h
  split at h
  · rename_i e
    subst e
    show szT .nil ≤ 500
    rw [szT]; decide
  · unfold capN at h
    omega
theorem weight_bound (Q : List Tw) : 0 ≤ weightOf Q ∧ weightOf Q ≤ 1000 := by
  unfold weightOf
  split
  · omega
  · unfold capN; omega

set_option maxHeartbeats 4000000 in
theorem told_law (G : Gr) (Ap Al As : Option Addr) (np cp nl cl ns cs : Nat) (A : Option Addr) (n c : Nat) (Q : List Tw) (A2 : Option Addr) (n2 c2 : Nat) (l : List Int) (hl : l.length = n2) (w : World) (B : Nat) (hB : B ≤ w.heap.size) (hgl : 8 < B) (hp : Pow w) (hG : GrIn w B G Ap Al As np cp nl cl ns cs) (hQ : RdTw w B A n c Q) (hI : RdI w B A2 l) :
    Calls Tryd.prog 4 #[.agg #[.int .i64 G.terms, .int .i64 G.names, .int .i64 G.start, .slice Ap np cp, .slice Al nl cl, .slice As ns cs], .slice A n c, .slice A2 n2 c2] w fun e w' => e = .returned (.bool true) ∧ Below w.heap.size w w' := by
  obtain ⟨hb0, hs0, gb⟩ := gbox w G Ap Al As np cp nl cl ns cs
  have hG0 := hG.below (hb0.mono hB)
  have hC1 := small_any G Ap Al As np cp nl cl ns cs (w.alloc (.cells #[.int .i64 G.terms, .int .i64 G.names, .int .i64 G.start, .slice Ap np cp, .slice Al nl cl, .slice As ns cs] 34)) B (Nat.le_trans hB hb0.size) hG0
  rw [hs0] at hC1
  have HC1 := Lib.hid hC1; have HB0 := Lib.hid hb0; have HGB := Lib.hid gb; have HG := Lib.hid hG0
  have HP := Lib.hid (hp.below hgl (hb0.mono hB)); have HQ := Lib.hid (hQ.below (hb0.mono hB)); have HI := Lib.hid (hI.below (hb0.mono hB)); have HL := Lib.hid hl
  clear hC1 hG gb hG0 hp hQ hI hl
  generalize smallB G = sm at *
  have key : ∀ wk, Below (w.heap.size + 1) (w.alloc (.cells #[.int .i64 G.terms, .int .i64 G.names, .int .i64 G.start, .slice Ap np cp, .slice Al nl cl, .slice As ns cs] 34)) wk → (GrBox wk w.heap.size G Ap Al As np cp nl cl ns cs ∧ GrIn wk B G Ap Al As np cp nl cl ns cs ∧ B ≤ wk.heap.size ∧ w.heap.size + 1 ≤ wk.heap.size) ∧ Pow wk ∧ RdTw wk B A n c Q ∧ RdI wk B A2 l := fun wk h => by
    have := gkeep HGB.out HG.out h (by omega)
    have hz := h.size
    exact ⟨⟨this.1, this.2, by omega, by omega⟩, HP.out.below hgl (h.mono (by omega)), HQ.out.below (h.mono (by omega)), HI.out.below (h.mono (by omega))⟩
  have KEY := Lib.hid key
  clear key
  by_cases hsm : sm = true ∧ n2 ≤ 12 ∧ n ≤ 60
  rotate_left
  · as_aux_lemma =>
      go_enter Tryd.func4, Tryd.ntmps4
      go_wp2_with fail
      generalize w.alloc (.cells #[.int .i64 G.terms, .int .i64 G.names, .int .i64 G.start, .slice Ap np cp, .slice Al nl cl, .slice As ns cs] 34) = W0 at *
      refine HC1.out.mono ?_
      rintro e w1 ⟨rfl, hb1⟩
      have HB1 := Lib.hid hb1
      clear hb1
      cases sm
      · go_wp2
        all_goals
          go_ret
          exact ⟨rfl, HB0.out.trans (HB1.out.mono (Nat.le_succ _))⟩
      · by_cases q : 12 < n2
        · go_wp2
          all_goals
            go_ret
            exact ⟨rfl, HB0.out.trans (HB1.out.mono (Nat.le_succ _))⟩
        · have q2 : 60 < n := by
            apply Classical.byContradiction
            intro h
            exact hsm ⟨rfl, by omega, by omega⟩
          clear hsm
          go_wp2
          all_goals
            go_ret
            exact ⟨rfl, HB0.out.trans (HB1.out.mono (Nat.le_succ _))⟩
  · obtain ⟨rfl, h12, h60⟩ := hsm
    as_aux_lemma =>
      have q1 : ¬ 12 < n2 := by omega
      have q2 : ¬ 60 < n := by omega
      go_enter Tryd.func4, Tryd.ntmps4
      go_wp2_with fail
      generalize w.alloc (.cells #[.int .i64 G.terms, .int .i64 G.names, .int .i64 G.start, .slice Ap np cp, .slice Al nl cl, .slice As ns cs] 34) = W0 at *
      refine HC1.out.mono ?_
      rintro e w1 ⟨rfl, hb1⟩
      have HBW := Lib.hid hb1
      obtain ⟨⟨⟨c0, c1, c2', c3, c4, c5⟩, k1, k2, k3⟩, k4, k5, k6⟩ := KEY.out w1 hb1
      have HC := Lib.hid (heavy_any A n c Q w1 B k2 k5 h60)
      have hwb := weight_bound Q
      have HWS := Lib.hid (weight_size (Q := Q))
      clear k1 k2 k4 k5 k6 hb1
      generalize weightOf Q = wt at *
      go_wp2_with fail
      refine HC.out.mono ?_
      rintro e w2 ⟨rfl, hb2⟩
      have hb2' := HBW.out.trans (hb2.mono k3)
      clear HC HBW c0 c1 c2' c3 c4 c5 hb2 k3
      by_cases hwt : 500 < wt
      · as_aux_lemma =>
          have HB2 := Lib.hid hb2'
          clear hb2'
          go_wp2
          go_ret
          exact ⟨rfl, HB0.out.trans (HB2.out.mono (Nat.le_succ _))⟩
      · as_aux_lemma =>
          have hts := HWS.out (by omega)
          obtain ⟨⟨⟨c0, c1, c2', c3, c4, c5⟩, k1, k2, k3⟩, k4, k5, k6⟩ := KEY.out w2 hb2'
          have HC := Lib.hid (tree_any A n c Q w2 B k2 k5 h60)
          have HBW := Lib.hid hb2'
          clear k1 k2 k4 k5 k6 hb2' HWS
          go_wp2_with fail
          refine HC.out.mono ?_
          rintro e w3 ⟨v, rfl, hv, hit, hb3⟩
          have hb3' := HBW.out.trans (hb3.mono k3)
          have HV := Lib.hid hv; have HIT := Lib.hid hit
          clear HC HBW c0 c1 c2' c3 c4 c5 hb3 k3 hv hit
          obtain ⟨⟨⟨c0, c1, c2', c3, c4, c5⟩, k1, k2, k3⟩, k4, k5, k6⟩ := KEY.out w3 hb3'
          have HC := Lib.hid (rok_any G Ap Al As np cp nl cl ns cs w3 B k2 k1)
          have HBW := Lib.hid hb3'
          have hk2 := k2
          clear k1 k2 k4 k5 k6 hb3'
          go_wp2_with fail
          refine HC.out.mono ?_
          rintro e w4 ⟨rfl, hb4⟩
          have hb4' := HBW.out.trans (hb4.mono k3)
          have hv4 := TrB.below (TrB.more HV.out (Nat.le_refl _)) hb4
          have HV4 := Lib.hid hv4
          have hs34 := hb4.size
          have k33 := k3
          clear HC HBW c0 c1 c2' c3 c4 c5 hb4 k3 hv4 HV
          have HB4 := Lib.hid hb4'
          have hks : ∀ wk, Below w3.heap.size w4 wk → (Below (w.heap.size + 1) W0 wk ∧ w3.heap.size ≤ wk.heap.size ∧ TrB wk w3.heap.size v (treeOf Q)) := fun wk h => ⟨HB4.out.trans (h.mono k33), Nat.le_trans hs34 h.size, TrB.below HV4.out h⟩
          have HKS := Lib.hid hks
          have hBD : B ≤ w3.heap.size := hk2
          have hgD : 8 < w3.heap.size := Nat.lt_of_lt_of_le hgl hBD
          have hl2 : l.length = n2 := HL.out
          have HLL := Lib.hid hl2
          clear hks hb4' HL hl2
          generalize hD : w3.heap.size = D at *
          clear hD
          generalize treeOf Q = t at *
          by_cases hk : GOk G
          rotate_left
          · as_aux_lemma =>
              have HOK := Lib.hid (okB_f hk)
              rw [HOK.out]
              obtain ⟨hm, hz, hT⟩ := HKS.out w4 (Below.refl _ _)
              obtain ⟨⟨⟨c0, c1, c2', c3, c4, c5⟩, k1, k2, k3⟩, k4, k5, k6⟩ := KEY.out w4 hm
              have HC := Lib.hid (psound_any G Ap Al As np cp nl cl ns cs D A2 n2 c2 l HLL.out (by omega) t (by omega) v w4 hz (k1.more hBD) hT (k6.more hBD))
              rw [HOK.out] at HC
              rw [Bool.false_and] at HC
              have HZ := Lib.hid hz
              clear hm hz hT k1 k2 k3 k4 k5 k6
              go_wp2_with fail
              refine HC.out.mono ?_
              rintro e w6 ⟨rfl, hb6⟩
              have HBw6 : Hid (Below D w4 w6) := Lib.hid (hb6.mono HZ.out)
              clear HC hb6 c0 c1 c2' c3 c4 c5 HZ
              obtain ⟨hm, hz, hT⟩ := HKS.out w6 HBw6.out
              obtain ⟨⟨⟨c0, c1, c2', c3, c4, c5⟩, k1, k2, k3⟩, k4, k5, k6⟩ := KEY.out w6 hm
              have HC := Lib.hid (pshow_any D hgD t (by omega) HIT.out v w6 hz k4 hT)
              have HZ := Lib.hid hz
              clear hm hz hT k1 k2 k3 k4 k5 k6
              go_wp2_with fail
              refine HC.out.mono ?_
              rintro e w7 ⟨rfl, hb7⟩
              have HBw7 : Hid (Below D w4 w7) := Lib.hid (HBw6.out.trans (hb7.mono HZ.out))
              clear HC hb7 c0 c1 c2' c3 c4 c5 HZ
              obtain ⟨hm, hz, hT⟩ := HKS.out w7 HBw7.out
              have HC := Lib.hid (rshow_any D 100000 (by decide) t (by omega) HIT.out v w7 hz hT)
              have HZ := Lib.hid hz
              clear hm hz hT
              go_wp2_with fail
              refine HC.out.mono ?_
              rintro e w8 ⟨rfl, hb8⟩
              have HBw8 : Hid (Below D w4 w8) := Lib.hid (HBw7.out.trans (hb8.mono HZ.out))
              have HBL : Hid (Below w.heap.size w w8) := Lib.hid (HB0.out.trans ((HKS.out w8 HBw8.out).1.mono (Nat.le_succ _)))
              clear HC hb8 HZ HKS KEY
              unfold bs
              go_wp2
              go_ret
              exact ⟨ret_eq (by simp), HBL.out⟩
          · as_aux_lemma =>
              have HOK := Lib.hid (okB_t hk)
              rw [HOK.out]
              obtain ⟨hm, hz, hT⟩ := HKS.out w4 (Below.refl _ _)
              obtain ⟨⟨⟨c0, c1, c2', c3, c4, c5⟩, k1, k2, k3⟩, k4, k5, k6⟩ := KEY.out w4 hm
              have HC := Lib.hid (rsound_any G Ap Al As np cp nl cl ns cs hk D A2 n2 c2 l HLL.out (by omega) t (by omega) v w4 hz (k1.more hBD) hT (k6.more hBD))
              have HZ := Lib.hid hz
              clear hm hz hT k1 k2 k3 k4 k5 k6
              go_wp2_with fail
              refine HC.out.mono ?_
              rintro e w5 ⟨rfl, hb5⟩
              have HBw5 : Hid (Below D w4 w5) := Lib.hid (hb5.mono HZ.out)
              clear HC hb5 c0 c1 c2' c3 c4 c5 HZ
              obtain ⟨hm, hz, hT⟩ := HKS.out w5 (HBw5.out)
              obtain ⟨⟨⟨c0, c1, c2', c3, c4, c5⟩, k1, k2, k3⟩, k4, k5, k6⟩ := KEY.out w5 hm
              have HC := Lib.hid (psound_any G Ap Al As np cp nl cl ns cs D A2 n2 c2 l HLL.out (by omega) t (by omega) v w5 hz (k1.more hBD) hT (k6.more hBD))
              rw [HOK.out] at HC
              rw [Bool.true_and] at HC
              have HZ := Lib.hid hz
              generalize soundB G t l = sb at *
              cases sb
              all_goals as_aux_lemma =>
                clear hm hz hT k1 k2 k3 k4 k5 k6
                go_wp2_with fail
                refine HC.out.mono ?_
                rintro e w6 ⟨rfl, hb6⟩
                have HBw6 : Hid (Below D w4 w6) := Lib.hid (HBw5.out.trans (hb6.mono HZ.out))
                clear HC hb6 c0 c1 c2' c3 c4 c5 HZ
                obtain ⟨hm, hz, hT⟩ := HKS.out w6 HBw6.out
                obtain ⟨⟨⟨c0, c1, c2', c3, c4, c5⟩, k1, k2, k3⟩, k4, k5, k6⟩ := KEY.out w6 hm
                have HC := Lib.hid (pshow_any D hgD t (by omega) HIT.out v w6 hz k4 hT)
                have HZ := Lib.hid hz
                clear hm hz hT k1 k2 k3 k4 k5 k6
                go_wp2_with fail
                refine HC.out.mono ?_
                rintro e w7 ⟨rfl, hb7⟩
                have HBw7 : Hid (Below D w4 w7) := Lib.hid (HBw6.out.trans (hb7.mono HZ.out))
                clear HC hb7 c0 c1 c2' c3 c4 c5 HZ
                obtain ⟨hm, hz, hT⟩ := HKS.out w7 HBw7.out
                have HC := Lib.hid (rshow_any D 100000 (by decide) t (by omega) HIT.out v w7 hz hT)
                have HZ := Lib.hid hz
                clear hm hz hT
                go_wp2_with fail
                refine HC.out.mono ?_
                rintro e w8 ⟨rfl, hb8⟩
                have HBw8 : Hid (Below D w4 w8) := Lib.hid (HBw7.out.trans (hb8.mono HZ.out))
                have HBL : Hid (Below w.heap.size w w8) := Lib.hid (HB0.out.trans ((HKS.out w8 HBw8.out).1.mono (Nat.le_succ _)))
                clear HC hb8 HZ HKS KEY
                unfold bs
                go_wp2
                go_ret
                exact ⟨ret_eq (by simp), HBL.out⟩
theorem walk_TreeTold (W : World) (hF : Pow W ∧ 8 < W.heap.size) (v0 : Value) (w0 : IsGrammar W v0) (v1 : Value) (w1 : IsTwigs W v1) (v2 : Value) (w2 : IsInts W v2) :
    Calls Tryd.prog 4 #[v0, v1, v2] W fun e W' => e = .returned (.bool true) ∧ Below W.heap.size W W' := by
  obtain ⟨G, Ap, Al, As, np, cp, nl, cl, ns, cs, rfl, hG⟩ := w0
  obtain ⟨A, n, c, Q, rfl, hQ⟩ := w1
  obtain ⟨A2, n2, c2, l, rfl, hl, _, _, hI, _⟩ := w2
  exact told_law G Ap Al As np cp nl cl ns cs A n c Q A2 n2 c2 l hl W W.heap.size (Nat.le_refl _) hF.2 hF.1 hG hQ hI
end Go.Proofs.YtinejiodnnjpgaaDoor
