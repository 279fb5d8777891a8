/- The law GrammarSpeaks walked: it returns true. -/
import Derived.Test.YtgfchgnebpogjaaHsS
import Derived.Test.YtgfchgnebpogjaaHsE
import Derived.Test.YtgfchgnebpogjaaGrammarShortW
namespace Go.Proofs.Ytgfchgnebpogjaa
open Go.RowKit BigFrame
set_option linter.unusedVariables false
set_option linter.unusedSimpArgs false
set_option maxRecDepth 100000

theorem isShort_same {ps : List Pr} {x y : List Int} (hx : IsShort ps x) (hy : IsShort ps y) {X : Nat} (h1 : X < x.length) (h2 : X < y.length) (h0 : 0 ≤ nth x X) : nth y X = nth x X := by
  obtain ⟨l, ⟨h, hd⟩, e⟩ := hx.der X h1 h0
  have a := isShort_le ps hy _ _ _ hd
  obtain ⟨l', ⟨h', hd'⟩, e'⟩ := hy.der X h2 a.1
  have b := isShort_le ps hx _ _ _ hd'
  omega
theorem live_no {ps : List Pr} {N : Nat} {x : List Int} (hf : Fits N ps) (hx : IsShort ps x) {X : Nat} (h : nth x X < 0) : bth (liveT ps N) X = false := by
  cases hb : bth (liveT ps N) X
  · rfl
  · obtain ⟨l, k, hd⟩ := live_der hf hb
    have := isShort_le ps hx _ _ _ hd
    omega

set_option maxHeartbeats 2000000 in
theorem speaks_law_good (G : Gr) (Ap Al As : Option Addr) (np cp nl cl ns cs : Nat) (w : World) (B : Nat) (hB : B ≤ w.heap.size) (hG : GrIn w B G Ap Al As np cp nl cl ns cs) (hsm : GSmall G) (hk : GOk G) :
    Calls Try.prog 5 #[.agg #[.int .i64 G.terms, .int .i64 G.names, .int .i64 G.start, .slice Ap np cp, .slice Al nl cl, .slice As ns cs]] w fun e w' => e = .returned (.bool true) ∧ Below w.heap.size w w' := by
  obtain ⟨hb0, hs0, gb⟩ := gbox w G Ap Al As np cp nl cl ns cs
  obtain ⟨hp1, hp2⟩ := hG.p.len
  have hl3 := hG.lm; have hl4 := hG.sm
  have hG0 := hG.below (hb0.mono hB)
  have hn1 := hk.n0; have ht1 := hk.t0; have hn8 := hsm.n; have hst0 := hk.s0; have hst1 := hk.s1
  obtain ⟨N, hN⟩ := Int.eq_ofNat_of_zero_le (show 0 ≤ G.names by omega)
  obtain ⟨T, hT⟩ := Int.eq_ofNat_of_zero_le ht1
  obtain ⟨X, hX⟩ := Int.eq_ofNat_of_zero_le hst0
  have hXN : X < N := by omega
  have hN8 : N ≤ 8 := by omega
  have HC1 := Lib.hid (speaks_any (w.alloc (.cells #[.int .i64 G.terms, .int .i64 G.names, .int .i64 G.start, .slice Ap np cp, .slice Al nl cl, .slice As ns cs] 30)))
  have HSM := Lib.hid (smallB_t hsm)
  have hs0 : (w.alloc (.cells #[.int .i64 G.terms, .int .i64 G.names, .int .i64 G.start, .slice Ap np cp, .slice Al nl cl, .slice As ns cs] 30)).heap.size = w.heap.size + 1 := by simp
  have HB0 := Lib.hid hb0; have HGB := Lib.hid gb; have HG := Lib.hid hG0
  have HN := Lib.hid hN; have HT := Lib.hid hT; have HX := Lib.hid hX
  have HK := Lib.hid hk
  have HOK := Lib.hid (okB_t hk)
  have HFT := Lib.hid (fits_of hk hN)
  have HFF : Hid (∀ p ∈ G.prods, FitF N T p) := Lib.hid (fun p hp => ⟨((prFitg hk hp hN).2.1), fun s hs => ⟨(prFitg hk hp hN).2.2 s hs, by have := ((hk.pr p hp).s s hs).2; omega⟩⟩)
  unfold maxLen at hp2 hl3 hl4
  clear hG gb hG0 hp1 hk hsm hN hT hn1 ht1 hn8 hst0 hst1 hX hb0
  go_enter Try.func5, Try.ntmps5
  go_wp2_with fail
  generalize w.alloc (.cells #[.int .i64 G.terms, .int .i64 G.names, .int .i64 G.start, .slice Ap np cp, .slice Al nl cl, .slice As ns cs] 30) = W0 at *
  refine HC1.out.mono ?_
  rintro e w1 ⟨rfl, hb1⟩
  have key : ∀ wk, Below (w.heap.size + 1) W0 wk → GrBox wk w.heap.size G Ap Al As np cp nl cl ns cs ∧ GrIn wk B G Ap Al As np cp nl cl ns cs ∧ B ≤ wk.heap.size ∧ w.heap.size + 1 ≤ wk.heap.size := fun wk h => by
    have := gkeep HGB.out HG.out h (by omega)
    have hz := h.size
    exact ⟨this.1, this.2, by omega, by omega⟩
  have KEY := Lib.hid key
  rw [hs0] at hb1
  clear key HC1
  obtain ⟨⟨c0, c1, c2, c3, c4, c5⟩, k1, k2, k3⟩ := KEY.out w1 hb1
  have HC := Lib.hid (small_any G Ap Al As np cp nl cl ns cs w1 B k2 k1)
  rw [HSM.out] at HC
  have HBW := Lib.hid hb1
  clear k1 k2 hb1
  go_wp2_with fail
  refine HC.out.mono ?_
  rintro e w2 ⟨rfl, hb2⟩
  have hb2' := HBW.out.trans (hb2.mono k3)
  clear HC HBW c0 c1 c2 c3 c4 c5 hb2 k3
  obtain ⟨⟨c0, c1, c2, c3, c4, c5⟩, k1, k2, k3⟩ := KEY.out w2 hb2'
  have HC := Lib.hid (ok_any G Ap Al As np cp nl cl ns cs w2 B k2 k1)
  rw [HOK.out] at HC
  have HBW := Lib.hid hb2'
  clear k1 k2 hb2'
  go_wp2_with fail
  refine HC.out.mono ?_
  rintro e w3 ⟨rfl, hb3⟩
  have hb3' := HBW.out.trans (hb3.mono k3)
  clear HC HBW c0 c1 c2 c3 c4 c5 hb3 k3
  obtain ⟨⟨c0, c1, c2, c3, c4, c5⟩, k1, k2, k3⟩ := KEY.out w3 hb3'
  rw [HX.out] at c2
  have HC := Lib.hid (shortest_yes G Ap Al As np cp nl cl ns cs X w3 B N T k2 k1 HK.out HN.out HT.out hXN)
  rw [HX.out] at HC
  have HBW := Lib.hid hb3'
  clear k1 k2 hb3'
  go_wp2_with fail
  refine HC.out.mono ?_
  rintro e w4 ⟨⟨x, hxs, hxl, hcase⟩, hb4⟩
  have HXS := Lib.hid hxs; have HXL := Lib.hid hxl
  clear hxs hxl
  have hb4' := HBW.out.trans (hb4.mono k3)
  clear HC HBW c0 c1 c2 c3 c4 c5 hb4 k3
  obtain ⟨⟨c0, c1, c2, c3, c4, c5⟩, k1, k2, k3⟩ := KEY.out w4 hb4'
  rw [HX.out] at c2
  have HC := Lib.hid (short_good G Ap Al As np cp nl cl ns cs w4 B N k2 k1 HK.out HN.out)
  rw [HX.out] at HC
  have HBW := Lib.hid hb4'
  clear k1 k2 hb4'
  rcases hcase with ⟨hno, rfl⟩ | ⟨h0, h1, sp, l, A4, c4', hgd, hsp, rfl, hlc, hcm, hrd⟩
  · as_aux_lemma =>
      have HNO := Lib.hid hno; clear hno
      go_wp2_with fail
      refine HC.out.mono ?_
      rintro e w5 ⟨g1, n1, rfl, hg1, hblk1, hfix1, hb5⟩
      have hy := isShort_of HFT.out hfix1
      have hyl := (rounds_LenB HFT.out n1).1
      generalize rounds stepS G.prods n1 (x0 N) = y at hy hyl hblk1 hfix1
      have HY := Lib.hid hy; have HYL := Lib.hid hyl; have HB1 := Lib.hid hblk1
      have hb5' := HBW.out.trans (hb5.mono k3)
      clear HC HBW c0 c1 c2 c3 c4 c5 hb5 k3 hy hyl hfix1 hblk1
      obtain ⟨⟨c0, c1, c2, c3, c4, c5⟩, k1, k2, k3⟩ := KEY.out w5 hb5'
      rw [HX.out] at c2
      have HC := Lib.hid (LivesT_good G Ap Al As np cp nl cl ns cs w5 B N k2 k1 HK.out HN.out)
      rw [HX.out] at HC
      have HBW := Lib.hid hb5'
      clear k1 k2 hb5'
      go_wp2_with fail
      refine HC.out.mono ?_
      rintro e w6 ⟨g2, rfl, hg2, hblk2, hb6⟩
      have hb6' := HBW.out.trans (hb6.mono k3)
      have zs := (HB1.out.below' hb6).icell (k := X) (by rw [HYL.out]; exact hXN)
      have zl := hblk2.bcell (k := X) (by rw [growT_len]; exact hXN)
      have hsame : 0 ≤ nth x X → nth y X = nth x X := isShort_same HXS.out HY.out (by rw [HXL.out]; exact hXN) (by rw [HYL.out]; exact hXN)
      have hlive : nth x X < 0 → bth (liveT G.prods N) X = false := live_no HFT.out HXS.out
      change w6.cell? ⟨g2, X, none⟩ = some (.bool (bth (liveT G.prods N) X)) at zl
      have hd : bth (liveT G.prods N) X = false ∨ 1000 < nth y X := by
        rcases HNO.out with q | q
        · exact .inl (hlive q)
        · exact .inr (by rw [hsame (by omega)]; exact q)
      have HD := Lib.hid hd
      have HF := Lib.hid (HB0.out.trans (hb6'.mono (by omega)))
      clear HC HBW c0 c1 c2 c3 c4 c5 hb6 k3 hsame hlive hd
      obtain ⟨⟨c0, c1, c2, c3, c4, c5⟩, k1, k2, k3⟩ := KEY.out w6 hb6'
      rw [HX.out] at c2
      rw [HN.out] at c1
      clear k1 k2 k3 hb6' hblk2
      generalize bth (liveT G.prods N) X = v at zl HD
      generalize nth y X = u at zs HD
      cases v
      · go_wp2_with fail
        go_ret
        exact ⟨rfl, HF.out⟩
      · have hu : 1000 < u := by rcases HD.out with q | q; cases q; exact q
        go_wp2_with fail
        go_ret
        exact ⟨rfl, HF.out⟩
  · as_aux_lemma =>
      have hlst : Least G.prods x X l := by
        obtain ⟨b, hb, hl⟩ := hgd X (by rw [HXL.out]; exact hXN) h0 (Int.le_refl _)
        rw [hsp] at hb
        cases hb
        exact hl
      have HD := Lib.hid hlst.1; have HLE := Lib.hid hlst.2.1; have HRD := Lib.hid hrd; have H0 := Lib.hid h0
      have HDG : Hid (∀ s ∈ l, 0 ≤ s ∧ s < (T : Int)) := Lib.hid (by
        obtain ⟨h, hd⟩ := hlst.1
        exact der_dig (fun p hp s hs => (HFF.out p hp).2 s hs |>.2) h X l hd)
      have hcm' := hcm
      unfold maxLen at hcm'
      clear hlst hgd hsp hrd h0 h1
      go_wp2_with fail
      refine HC.out.mono ?_
      rintro e w5 ⟨g1, n1, rfl, hg1, hblk1, hfix1, hb5⟩
      have hy := isShort_of HFT.out hfix1
      have hyl := (rounds_LenB HFT.out n1).1
      generalize rounds stepS G.prods n1 (x0 N) = y at hy hyl hblk1 hfix1
      have HY := Lib.hid hy; have HYL := Lib.hid hyl; have HB1 := Lib.hid hblk1
      have HR5 := Lib.hid (HRD.out.keep (S := fun _ => False) (Kp.of hb5) (fun _ _ e => e))
      have hb5' := HBW.out.trans (hb5.mono k3)
      clear HC HBW c0 c1 c2 c3 c4 c5 hb5 k3 hy hyl hfix1 hblk1
      obtain ⟨⟨c0, c1, c2, c3, c4, c5⟩, k1, k2, k3⟩ := KEY.out w5 hb5'
      rw [HX.out] at c2
      have HC := Lib.hid (LivesT_good G Ap Al As np cp nl cl ns cs w5 B N k2 k1 HK.out HN.out)
      rw [HX.out] at HC
      have HBW := Lib.hid hb5'
      clear k1 k2 hb5'
      go_wp2_with fail
      refine HC.out.mono ?_
      rintro e w6 ⟨g2, rfl, hg2, hblk2, hb6⟩
      have hb6' := HBW.out.trans (hb6.mono k3)
      have zs := (HB1.out.below' hb6).icell (k := X) (by rw [HYL.out]; exact hXN)
      have zl := hblk2.bcell (k := X) (by rw [growT_len]; exact hXN)
      have hsame : nth y X = l.length := (isShort_same HXS.out HY.out (by rw [HXL.out]; exact hXN) (by rw [HYL.out]; exact hXN) H0.out).trans HLE.out.symm
      have hlive : bth (liveT G.prods N) X = true := (live_iff HFT.out).2 ⟨l, HD.out⟩
      change w6.cell? ⟨g2, X, none⟩ = some (.bool (bth (liveT G.prods N) X)) at zl
      rw [hlive] at zl
      rw [hsame] at zs
      have HR6 := Lib.hid (HR5.out.keep (S := fun _ => False) (Kp.of hb6) (fun _ _ e => e))
      clear HC HBW c0 c1 c2 c3 c4 c5 hb6 k3 hsame hlive hblk2
      obtain ⟨⟨c0, c1, c2, c3, c4, c5⟩, k1, k2, k3⟩ := KEY.out w6 hb6'
      rw [HX.out] at c2
      rw [HN.out] at c1
      have HBW := Lib.hid hb6'
      clear hb6'
      by_cases hpos : 0 < l.length
      · as_aux_lemma =>
          have HC := Lib.hid (FirstT_good G Ap Al As np cp nl cl ns cs w6 B N T k2 k1 HK.out HN.out HT.out)
          rw [HX.out, HN.out] at HC
          clear k1 k2
          go_wp2_with fail
          refine HC.out.mono ?_
          rintro e w7 ⟨D, rfl, hD, hL, hb7⟩
          have hb7' := HBW.out.trans (hb7.mono k3)
          obtain ⟨vs, v1, v2, v3⟩ := hL.b
          obtain ⟨Ak, ck, u1, u2, u3, u4⟩ := v3 X hXN
          have zd := v2.cell u1
          have hR7 := HR6.out.keep (S := fun _ => False) (Kp.of hb7) (fun _ _ e => e)
          obtain ⟨bs, os, rfl, _, _, hz⟩ := hR7 (by intro e; rw [e] at hpos; simp at hpos)
          have zh : w7.cell? ⟨bs, os, none⟩ = some (.int .i64 (nth l 0)) := hz 0 hpos
          have hin : nth l 0 ∈ nums (rowB (frT G N T) X) := by
            obtain ⟨h, hd⟩ := HD.out
            cases l with
            | nil => simp at hpos
            | cons a l' =>
              have hda := HDG.out a (by simp)
              exact nums_mem hda.1 (first_of HFT.out HFF.out h X l' hd)
          generalize nums (rowB (frT G N T) X) = F at u1 u2 u4 zd hin
          have HIN := Lib.hid hin; have HF4 := Lib.hid u4
          have HR7 := Lib.hid hR7
          clear HC HBW c0 c1 c2 c3 c4 c5 hb7 k3 hin hL v1 v2 v3 u1 u4 hR7 hz zs zl HB1 HR6
          obtain ⟨⟨c0, c1, c2, c3, c4, c5⟩, k1, k2, k3⟩ := KEY.out w7 hb7'
          rw [HX.out] at c2
          have HBW := Lib.hid hb7'
          have hckm := u3
          unfold maxLen at hckm
          clear hb7' k1 k2
          go_wp2_with fail
          have HZD := Lib.hid zd; have HZH := Lib.hid zh
          have hDw := (World.block_lt_of_cell? _ _ zd)
          have hbs := (World.block_lt_of_cell? _ _ zh)
          generalize nth l 0 = a at HIN HZH
          clear zd zh c0 c1 c2 c3 c4 c5
          go_loopw [10, 11] (fun v i wr => ∃ k : Nat, ∃ q : Bool, k ≤ F.length ∧ i = .int .i64 k ∧ v = .bool q ∧ Hid (Below w7.heap.size w7 wr) ∧ Hid (q = (F.take k).any (fun s => s == a))) (fun _ i _ => F.length - (intOf i).toNat)
          case atStart => exact ⟨0, false, Nat.zero_le _, rfl, rfl, Below.refl _ _, rfl⟩
          case round =>
            as_aux_lemma =>
              obtain ⟨k, q, hkF, rfl, rfl, HW, HQ⟩ := hrel
              have hb7' := HBW.out.trans (HW.out.mono k3)
              obtain ⟨⟨c0, c1, c2, c3, c4, c5⟩, k1, k2, k4⟩ := KEY.out wr hb7'
              rw [HX.out] at c2
              have zd := (HW.out.cell (p := ⟨D, X, none⟩) hDw).trans HZD.out
              have zh := (HW.out.cell (p := ⟨bs, os, none⟩) hbs).trans HZH.out
              have HBW2 := Lib.hid hb7'
              by_cases hlt : k < F.length
              · as_aux_lemma =>
                  clear k1 k2 k4 hb7'
                  obtain ⟨bk, ok, rfl, _, hbk, hzk⟩ := HF4.out (by intro e; rw [e] at hlt; simp at hlt)
                  have zk := (HW.out.cell (p := ⟨bk, ok + k, none⟩) hbk).trans (hzk k hlt)
                  have hsn : (F.take (k + 1)).any (fun s => s == a) = ((F.take k).any (fun s => s == a) || (nth F k == a)) := by
                    rw [List.take_succ_eq_append_getElem hlt, List.any_append, nth_get hlt]; simp
                  rw [← HQ.out] at hsn
                  generalize nth F k = f at zk hsn
                  clear hzk
                  cases q
                  · cases hfa : f == a
                    all_goals
                      have HSN := Lib.hid hsn
                      clear hsn
                      go_wp2_with fail
                      go_quiet (fail)
                      rename_i d
                      go_wp2_with fail
                      go_roundw
                      case rel => exact ⟨k + 1, _, by omega, by go_num, rfl, HW.out.trans ⟨rfl, rfl, rfl, Nat.le_refl _, fun _ _ => rfl⟩, by rw [HSN.out, hfa]; rfl⟩
                      case measure => simp [intOf]; omega
                  · have HSN := Lib.hid hsn
                    clear hsn
                    go_wp2_with fail
                    go_quiet (fail)
                    rename_i d
                    go_wp2_with fail
                    go_roundw
                    case rel => exact ⟨k + 1, true, by omega, by go_num, rfl, HW.out.trans ⟨rfl, rfl, rfl, Nat.le_refl _, fun _ _ => rfl⟩, by rw [HSN.out]; rfl⟩
                    case measure => simp [intOf]; omega
              · as_aux_lemma =>
                  have hq : q = true := by
                    rw [HQ.out, List.take_of_length_le (by omega), List.any_eq_true]
                    exact ⟨a, HIN.out, by simp⟩
                  subst hq
                  by_cases h12 : 12 < l.length
                  · have d12 : decide ((12 : Int) < (l.length : Int)) = true := decide_eq_true (by omega)
                    have HF := Lib.hid (HB0.out.trans (hb7'.mono (by omega)))
                    clear k1 k2 k4 hb7'
                    go_wp2_with fail
                    go_ret
                    exact ⟨rfl, HF.out⟩
                  · have d12 : decide ((12 : Int) < (l.length : Int)) = false := decide_eq_false (by omega)
                    have HC := Lib.hid (has_any G Ap Al As np cp nl cl ns cs (some ⟨bs, os, none⟩) l.length c4' wr.heap.size l wr B N k2 k1 HK.out HN.out ((HR7.out.keep (S := fun _ => False) (Kp.of HW.out) (fun _ _ e => e)).rdI) rfl (Nat.le_refl _) (by omega) true ⟨fun _ => by rw [HX.out]; simpa using HD.out, fun _ => rfl⟩)
                    rw [HX.out] at HC
                    clear k1 k2 hb7'
                    go_wp2_with fail
                    refine HC.out.mono ?_
                    rintro e w8 ⟨rfl, hb8⟩
                    have HF := Lib.hid (HB0.out.trans ((HBW2.out.trans (hb8.mono k4)).mono (by omega)))
                    clear hb8
                    go_wp2_with fail
                    go_ret
                    exact ⟨rfl, HF.out⟩
      · as_aux_lemma =>
          have hl0 : l.length = 0 := by omega
          have HC := Lib.hid (has_any G Ap Al As np cp nl cl ns cs A4 l.length c4' w6.heap.size l w6 B N k2 k1 HK.out HN.out HR6.out.rdI rfl (Nat.le_refl _) (by omega) true ⟨fun _ => by rw [HX.out]; simpa using HD.out, fun _ => rfl⟩)
          rw [HX.out, HN.out] at HC
          clear k1 k2 hl0
          have h12 : decide ((12 : Int) < (l.length : Int)) = false := decide_eq_false (by omega)
          go_wp2_with fail
          refine HC.out.mono ?_
          rintro e w7 ⟨rfl, hb7⟩
          have HF := Lib.hid (HB0.out.trans ((HBW.out.trans (hb7.mono k3)).mono (by omega)))
          clear hb7
          go_wp2_with fail
          go_ret
          exact ⟨rfl, HF.out⟩

theorem speaks_law_bad (G : Gr) (Ap Al As : Option Addr) (np cp nl cl ns cs : Nat) (w : World) (B : Nat) (hB : B ≤ w.heap.size) (hG : GrIn w B G Ap Al As np cp nl cl ns cs) (h : smallB G = false ∨ okB G = false) :
    Calls Try.prog 5 #[.agg #[.int .i64 G.terms, .int .i64 G.names, .int .i64 G.start, .slice Ap np cp, .slice Al nl cl, .slice As ns cs]] w fun e w' => e = .returned (.bool true) ∧ Below w.heap.size w w' := by
  obtain ⟨hb0, hs0, gb⟩ := gbox w G Ap Al As np cp nl cl ns cs
  obtain ⟨hp1, hp2⟩ := hG.p.len
  have hl3 := hG.lm; have hl4 := hG.sm
  have hG0 := hG.below (hb0.mono hB)
  have HC1 := Lib.hid (speaks_any (w.alloc (.cells #[.int .i64 G.terms, .int .i64 G.names, .int .i64 G.start, .slice Ap np cp, .slice Al nl cl, .slice As ns cs] 30)))
  have hs0 : (w.alloc (.cells #[.int .i64 G.terms, .int .i64 G.names, .int .i64 G.start, .slice Ap np cp, .slice Al nl cl, .slice As ns cs] 30)).heap.size = w.heap.size + 1 := by simp
  have HB0 := Lib.hid hb0; have HGB := Lib.hid gb; have HG := Lib.hid hG0; have HH := Lib.hid h
  unfold maxLen at hp2 hl3 hl4
  clear hG gb hG0 hp1 hb0 h
  go_enter Try.func5, Try.ntmps5
  go_wp2_with fail
  generalize w.alloc (.cells #[.int .i64 G.terms, .int .i64 G.names, .int .i64 G.start, .slice Ap np cp, .slice Al nl cl, .slice As ns cs] 30) = W0 at *
  refine HC1.out.mono ?_
  rintro e w1 ⟨rfl, hb1⟩
  have key : ∀ wk, Below (w.heap.size + 1) W0 wk → GrBox wk w.heap.size G Ap Al As np cp nl cl ns cs ∧ GrIn wk B G Ap Al As np cp nl cl ns cs ∧ B ≤ wk.heap.size ∧ w.heap.size + 1 ≤ wk.heap.size := fun wk h => by
    have := gkeep HGB.out HG.out h (by omega)
    have hz := h.size
    exact ⟨this.1, this.2, by omega, by omega⟩
  have KEY := Lib.hid key
  rw [hs0] at hb1
  clear key HC1
  obtain ⟨⟨c0, c1, c2, c3, c4, c5⟩, k1, k2, k3⟩ := KEY.out w1 hb1
  have HC := Lib.hid (small_any G Ap Al As np cp nl cl ns cs w1 B k2 k1)
  have HBW := Lib.hid hb1
  clear k1 k2 hb1
  go_wp2_with fail
  refine HC.out.mono ?_
  rintro e w2 ⟨rfl, hb2⟩
  have hb2' := HBW.out.trans (hb2.mono k3)
  clear HC HBW c0 c1 c2 c3 c4 c5 hb2 k3
  obtain ⟨⟨c0, c1, c2, c3, c4, c5⟩, k1, k2, k3⟩ := KEY.out w2 hb2'
  have HC := Lib.hid (ok_any G Ap Al As np cp nl cl ns cs w2 B k2 k1)
  have HF2 := Lib.hid (HB0.out.trans (hb2'.mono (by omega)))
  have HBW := Lib.hid hb2'
  clear k1 k2 hb2'
  cases hs : smallB G
  · go_wp2_with fail
    go_ret
    exact ⟨rfl, HF2.out⟩
  · have ho : okB G = false := by rcases HH.out with q | q; rw [hs] at q; cases q; exact q
    rw [ho] at HC
    clear ho
    go_wp2_with fail
    refine HC.out.mono ?_
    rintro e w3 ⟨rfl, hb3⟩
    have HF := Lib.hid (HB0.out.trans ((HBW.out.trans (hb3.mono k3)).mono (by omega)))
    clear hb3
    go_wp2_with fail
    go_ret
    exact ⟨rfl, HF.out⟩

theorem walk_GrammarSpeaks (w : World) (v : Value) (hv : IsGrammar w v) :
    Calls Try.prog 5 #[v] w fun e w' => e = .returned (.bool true) ∧ Below w.heap.size w w' := by
  obtain ⟨G, Ap, Al, As, np, cp, nl, cl, ns, cs, rfl, hG⟩ := hv
  by_cases hs : GSmall G
  · by_cases hk : GOk G
    · exact speaks_law_good G Ap Al As np cp nl cl ns cs w w.heap.size (Nat.le_refl _) hG hs hk
    · exact speaks_law_bad G Ap Al As np cp nl cl ns cs w w.heap.size (Nat.le_refl _) hG (.inr (okB_f hk))
  · exact speaks_law_bad G Ap Al As np cp nl cl ns cs w w.heap.size (Nat.le_refl _) hG (.inl (smallB_f hs))
end Go.Proofs.Ytgfchgnebpogjaa
