/- The law GrammarShort walked: it returns true. -/
import Derived.Test.YtgfchgnebpogjaaSnD
import Derived.Test.YtgfchgnebpogjaaGrW
import Derived.Test.YtgfchgnebpogjaaIntz
namespace Go.Proofs.Ytgfchgnebpogjaa
open Go.RowKit
set_option linter.unusedVariables false
set_option linter.unusedSimpArgs false
set_option maxRecDepth 100000

theorem opens_Ints : Opens Try.prog 22 (shL shInt) := opens_slice Try.underlying22 (by kernel_rfl) (by decide) (opens_int Try.underlying3 (by kernel_rfl))
theorem opens_Prod : Opens Try.prog 50 shProd :=
  opens_struct Try.underlying50 (by kernel_rfl) (opF_cons rfl (opens_int Try.underlying3 (by kernel_rfl)) (opF_cons rfl opens_Ints (opF_one rfl (opens_int Try.underlying3 (by kernel_rfl)))))
theorem opens_Prods : Opens Try.prog 28 (shL shProd) := opens_slice Try.underlying28 (by kernel_rfl) (by decide) opens_Prod
theorem opens_Grammar : Opens Try.prog 30 (shP shInt (shP shInt (shP shInt (shP (shL shProd) (shP (shL shInt) (shL shInt)))))) :=
  opens_struct Try.underlying30 (by kernel_rfl) (opF_cons rfl (opens_int Try.underlying3 (by kernel_rfl)) (opF_cons rfl (opens_int Try.underlying3 (by kernel_rfl)) (opF_cons rfl (opens_int Try.underlying3 (by kernel_rfl)) (opF_cons rfl opens_Prods (opF_cons rfl opens_Ints (opF_one rfl opens_Ints))))))

/-- A grammar that came in. -/
def IsGrammar (W : World) (v : Value) : Prop := ∃ (G : Gr) (Ap : Option Addr) (Al : Option Addr) (As : Option Addr) (np : Nat) (cp : Nat) (nl : Nat) (cl : Nat) (ns : Nat) (cs : Nat), v = .agg #[.int .i64 G.terms, .int .i64 G.names, .int .i64 G.start, .slice Ap np cp, .slice Al nl cl, .slice As ns cs] ∧ GrIn W W.heap.size G Ap Al As np cp nl cl ns cs
theorem open_IsGrammar {H : Type} {enc : TypeId × Value → H} {W : World} {base : Nat} {r : Reach} {b0 : Nat} {v : Value} {d : DataW H} {p : List MemPlace} {held : Bool}
    (hv : Value.okWide Try.prog W r b0 30 v) (h : DataW.Trod enc Try.prog W base (fun _ => true) held 30 v d p) : IsGrammar W v := by
  obtain ⟨cs, rfl, hsz⟩ := Go.WideShapes.okWide_struct Try.underlying30 hv
  obtain ⟨⟨x, y, z, Q, L, S⟩, c1, d1, e1, h1, c2, d2, e2, h2, c3, d3, e3, h3, c4, d4, e4, h4, c5, c6, e5, h5, h6⟩ := isIn_of opens_Grammar h
  obtain ⟨rfl, _⟩ := h1
  obtain ⟨rfl, _⟩ := h2
  obtain ⟨rfl, _⟩ := h3
  obtain ⟨A4, k4, q4, f4, g4⟩ := shL_form h4
  obtain ⟨A5, k5, q5, f5, g5⟩ := shL_form h5
  obtain ⟨A6, k6, q6, f6, g6⟩ := shL_form h6
  subst q4 q5 q6
  obtain ⟨_, _, m5, r5⟩ := rdI_sh h5
  obtain ⟨_, _, m6, r6⟩ := rdI_sh h6
  refine ⟨⟨x, y, z, Q, L, S⟩, A4, A5, A6, _, k4, _, k5, _, k6, ?_, ⟨h4, r5, rfl, Nat.le_trans f5 g5, r6, rfl, Nat.le_trans f6 g6⟩⟩
  have e' : cs = #[.int .i64 x, .int .i64 y, .int .i64 z, .slice A4 Q.length k4, .slice A5 L.length k5, .slice A6 S.length k6] := by
    apply Array.ext'
    subst e5 e4 e3 e2
    simpa [Value.cells] using e1
  rw [e']

/-- The grammar's box kept. -/
theorem gkeep {w0 w1 : World} {B g : Nat} {G : Gr} {Ap Al As : Option Addr} {np cp nl cl ns cs : Nat} (gb : GrBox w0 g G Ap Al As np cp nl cl ns cs) (hG : GrIn w0 B G Ap Al As np cp nl cl ns cs) (hb : Below (g + 1) w0 w1) (hB : B ≤ g + 1) : GrBox w1 g G Ap Al As np cp nl cl ns cs ∧ GrIn w1 B G Ap Al As np cp nl cl ns cs :=
  ⟨gb.below hb (Nat.lt_succ_self _), hG.below (hb.mono hB)⟩

theorem len_agree {ps : List Prd} {N m : Nat} (hv : VP N ps) (hN : N ≤ 8) (h : (passF stepS 0 ps (rounds stepS ps m (x0 N))).2 = false) : rounds stepS ps m (x0 N) = rounds stepS ps (N + 1) (x0 N) := by
  have h2 := xs_done hv hN
  have a := (rounds_fixed stepS_same h (Nat.le_add_right m (N + 1))).1
  have b := (rounds_fixed stepS_same h2 (Nat.le_add_left N (m + 1))).1
  have c := (rounds_fixed stepS_same h2 (Nat.le_add_right N 1)).1
  rw [← a, c, ← b]
  rw [show m + (N + 1) = m + 1 + N by omega]
theorem vp_of {G : Gr} (h : GOk G) (hs : GSmall G) {N : Nat} (hN : G.names = N) : VP N G.prods := fun p hp => by
  obtain ⟨a, b, c⟩ := prFit h hp hN
  exact ⟨a, b, hs.r p hp, c⟩

/-- The lengths lists that both tell. -/
theorem short_law_bad (G : Gr) (Ap Al As : Option Addr) (np cp nl cl ns cs : Nat) (n : Int) (w : World) (B : Nat) (hB : B ≤ w.heap.size) (hG : GrIn w B G Ap Al As np cp nl cl ns cs) (hsm : GSmall G) (hk : okB G = false) :
    Calls Try.prog 4 #[.agg #[.int .i64 G.terms, .int .i64 G.names, .int .i64 G.start, .slice Ap np cp, .slice Al nl cl, .slice As ns cs], .int .i64 n] w fun e w' => e = .returned (.bool true) ∧ Below w.heap.size w w' := by
  obtain ⟨hb0, hs0, gb⟩ := gbox w G Ap Al As np cp nl cl ns cs
  obtain ⟨hp1, hp2⟩ := hG.p.len
  have hl3 := hG.lm; have hl4 := hG.sm
  have hG0 := hG.below (hb0.mono hB)
  have hC1 := small_any G Ap Al As np cp nl cl ns cs (w.alloc (.cells #[.int .i64 G.terms, .int .i64 G.names, .int .i64 G.start, .slice Ap np cp, .slice Al nl cl, .slice As ns cs] 30)) B (Nat.le_trans hB hb0.size) hG0
  rw [smallB_t hsm, hs0] at hC1
  have HC1 := Lib.hid hC1; have HB0 := Lib.hid hb0; have HGB := Lib.hid gb; have HG := Lib.hid hG0
  have HK := Lib.hid hk
  unfold maxLen at hp2 hl3 hl4
  clear hC1 hG gb hG0 hp1 hk
  go_enter Try.func4, Try.ntmps4
  go_wp2_with fail
  generalize w.alloc (.cells #[.int .i64 G.terms, .int .i64 G.names, .int .i64 G.start, .slice Ap np cp, .slice Al nl cl, .slice As ns cs] 30) = W0 at *
  refine HC1.out.mono ?_
  rintro e w1 ⟨rfl, hb1⟩
  have key : ∀ wk, Below (w.heap.size + 1) W0 wk → GrBox wk w.heap.size G Ap Al As np cp nl cl ns cs ∧ GrIn wk B G Ap Al As np cp nl cl ns cs ∧ B ≤ wk.heap.size ∧ w.heap.size + 1 ≤ wk.heap.size := fun wk h => by
    have := gkeep HGB.out HG.out h (by omega)
    have hz := h.size
    exact ⟨this.1, this.2, by omega, by omega⟩
  have KEY := Lib.hid key
  clear key HC1
  obtain ⟨⟨c0, c1, c2, c3, c4, c5⟩, k1, k2, k3⟩ := KEY.out w1 hb1
  have HC := Lib.hid (rok_any G Ap Al As np cp nl cl ns cs w1 B k2 k1)
  have HBW := Lib.hid hb1
  clear k1 k2 hb1
  go_wp2_with fail
  refine HC.out.mono ?_
  rintro e w2 ⟨rfl, hb2⟩
  have hb2' := HBW.out.trans (hb2.mono k3)
  clear HC HBW c0 c1 c2 c3 c4 c5 hb2 k3
  obtain ⟨⟨c0, c1, c2, c3, c4, c5⟩, k1, k2, k3⟩ := KEY.out w2 hb2'
  have HC := Lib.hid (short_bad G Ap Al As np cp nl cl ns cs w2 B k2 k1 HK.out)
  have HBW := Lib.hid hb2'
  have hkk := HK.out
  clear k1 k2 hb2'
  go_wp2_with fail
  refine HC.out.mono ?_
  rintro e w3 ⟨rfl, hb3⟩
  have hb3' := HBW.out.trans (hb3.mono k3)
  clear HC HBW c0 c1 c2 c3 c4 c5 hb3 k3
  obtain ⟨⟨c0, c1, c2, c3, c4, c5⟩, k1, k2, k3⟩ := KEY.out w3 hb3'
  have HC := Lib.hid (shortest_no G Ap Al As np cp nl cl ns cs n w3 B k2 k1 (.inl HK.out))
  have HBW := Lib.hid hb3'
  clear k1 k2 hb3'
  go_wp2_with fail
  refine HC.out.mono ?_
  rintro e w4 ⟨rfl, hb4⟩
  have HB4 := Lib.hid (HBW.out.trans (hb4.mono k3))
  clear hb4
  go_wp2
  go_ret
  exact ⟨rfl, HB0.out.trans (HB4.out.mono (Nat.le_succ _))⟩

theorem short_law_good (G : Gr) (Ap Al As : Option Addr) (np cp nl cl ns cs : Nat) (n : Int) (w : World) (B : Nat) (hB : B ≤ w.heap.size) (hG : GrIn w B G Ap Al As np cp nl cl ns cs) (hsm : GSmall G) (hk : GOk G) :
    Calls Try.prog 4 #[.agg #[.int .i64 G.terms, .int .i64 G.names, .int .i64 G.start, .slice Ap np cp, .slice Al nl cl, .slice As ns cs], .int .i64 n] w fun e w' => e = .returned (.bool true) ∧ Below w.heap.size w w' := by
  obtain ⟨hb0, hs0, gb⟩ := gbox w G Ap Al As np cp nl cl ns cs
  obtain ⟨hp1, hp2⟩ := hG.p.len
  have hl3 := hG.lm; have hl4 := hG.sm
  have hG0 := hG.below (hb0.mono hB)
  have hC1 := small_any G Ap Al As np cp nl cl ns cs (w.alloc (.cells #[.int .i64 G.terms, .int .i64 G.names, .int .i64 G.start, .slice Ap np cp, .slice Al nl cl, .slice As ns cs] 30)) B (Nat.le_trans hB hb0.size) hG0
  rw [smallB_t hsm, hs0] at hC1
  have HC1 := Lib.hid hC1; have HB0 := Lib.hid hb0; have HGB := Lib.hid gb; have HG := Lib.hid hG0
  have hn1 := hk.n0; have ht1 := hk.t0; have hn8 := hsm.n
  obtain ⟨N, hN⟩ := Int.eq_ofNat_of_zero_le (show 0 ≤ G.names by omega)
  obtain ⟨T, hT⟩ := Int.eq_ofNat_of_zero_le ht1
  have hN8 : N ≤ 8 := by omega
  have HN := Lib.hid hN; have HT := Lib.hid hT
  have HK := Lib.hid hk
  have hok := okB_t hk
  have HOK := Lib.hid hok
  have HVP := Lib.hid (vp_of hk hsm hN)
  unfold maxLen at hp2 hl3 hl4
  clear hC1 hG gb hG0 hp1 hk hsm hN hT hok hn1 ht1 hn8
  go_enter Try.func4, Try.ntmps4
  go_wp2_with fail
  generalize w.alloc (.cells #[.int .i64 G.terms, .int .i64 G.names, .int .i64 G.start, .slice Ap np cp, .slice Al nl cl, .slice As ns cs] 30) = W0 at *
  refine HC1.out.mono ?_
  rintro e w1 ⟨rfl, hb1⟩
  have key : ∀ wk, Below (w.heap.size + 1) W0 wk → GrBox wk w.heap.size G Ap Al As np cp nl cl ns cs ∧ GrIn wk B G Ap Al As np cp nl cl ns cs ∧ B ≤ wk.heap.size ∧ w.heap.size + 1 ≤ wk.heap.size := fun wk h => by
    have := gkeep HGB.out HG.out h (by omega)
    have hz := h.size
    exact ⟨this.1, this.2, by omega, by omega⟩
  have KEY := Lib.hid key
  clear key HC1
  obtain ⟨⟨c0, c1, c2, c3, c4, c5⟩, k1, k2, k3⟩ := KEY.out w1 hb1
  have HC := Lib.hid (rok_any G Ap Al As np cp nl cl ns cs w1 B k2 k1)
  rw [HOK.out] at HC
  have HBW := Lib.hid hb1
  clear k1 k2 hb1
  go_wp2_with fail
  refine HC.out.mono ?_
  rintro e w2 ⟨rfl, hb2⟩
  have hb2' := HBW.out.trans (hb2.mono k3)
  clear HC HBW c0 c1 c2 c3 c4 c5 hb2 k3
  obtain ⟨⟨c0, c1, c2, c3, c4, c5⟩, k1, k2, k3⟩ := KEY.out w2 hb2'
  have HC := Lib.hid (short_good G Ap Al As np cp nl cl ns cs w2 B N k2 k1 HK.out HN.out)
  have HBW := Lib.hid hb2'
  clear k1 k2 hb2'
  go_wp2_with fail
  refine HC.out.mono ?_
  rintro e w3 ⟨g1, m1, rfl, hg1, hblk1, hfix1, hb3⟩
  have hl := len_agree HVP.out hN8 hfix1
  rw [hl] at hblk1
  obtain ⟨x1, hx1⟩ : ∃ x1, x1 = rounds stepS G.prods (N + 1) (x0 N) := ⟨_, rfl⟩
  rw [← hx1] at hblk1
  have HX1 := Lib.hid hx1
  have hx1l : x1.length = N := by rw [hx1]; exact (rounds_LenB (fits_of HK.out HN.out) (N + 1)).1
  have HX1L := Lib.hid hx1l
  have hb3' := HBW.out.trans (hb3.mono k3)
  have hg1w : w.heap.size + 1 ≤ g1 := by omega
  clear HC HBW c0 c1 c2 c3 c4 c5 hb3 k3 hfix1 hl hx1 hx1l
  have HL2 := Lib.hid hblk1; clear hblk1
  obtain ⟨⟨c0, c1, c2, c3, c4, c5⟩, k1, k2, k3⟩ := KEY.out w3 hb3'
  have HBW := Lib.hid hb3'
  clear hb3'
  by_cases hn : n < 0 ∨ G.names ≤ n
  · as_aux_lemma =>
      have HC := Lib.hid (shortest_no G Ap Al As np cp nl cl ns cs n w3 B k2 k1 (.inr hn))
      have HNN := Lib.hid hn
      clear k1 k2 hn
      go_wp2_with fail
      refine HC.out.mono ?_
      rintro e w4 ⟨rfl, hb4⟩
      have hb4' := HBW.out.trans (hb4.mono k3)
      have HL3 : Hid (Blk w4 g1 3 (iv x1)) := Lib.hid (HL2.out.below' hb4)
      clear HC HBW c0 c1 c2 c3 c4 c5 hb4 k3 HL2
      obtain ⟨⟨c0, c1, c2, c3, c4, c5⟩, k1, k2, k3⟩ := KEY.out w4 hb4'
      have HC := Lib.hid (rshortest_no G Ap Al As np cp nl cl ns cs n w4 B k2 k1 HNN.out)
      have HBW := Lib.hid hb4'
      clear k1 k2 hb4'
      go_wp2_with fail
      refine HC.out.mono ?_
      rintro e w5 ⟨rfl, hb5⟩
      have hb5' := HBW.out.trans (hb5.mono k3)
      have HL4 : Hid (Blk w5 g1 3 (iv x1)) := Lib.hid (HL3.out.below' hb5)
      clear HC HBW c0 c1 c2 c3 c4 c5 hb5 k3 HL3
      obtain ⟨⟨c0, c1, c2, c3, c4, c5⟩, k1, k2, k3⟩ := KEY.out w5 hb5'
      have HC := Lib.hid (rshort_any G Ap Al As np cp nl cl ns cs w5 B N k2 k1 HK.out HN.out)
      have HBW := Lib.hid hb5'
      clear k1 k2 hb5'
      go_wp2_with fail
      refine HC.out.mono ?_
      rintro e w6 ⟨g2, rfl, hg2, hblk2, hb6⟩
      rw [← HX1.out] at hblk2
      have hb6' := HBW.out.trans (hb6.mono k3)
      have hB1 : Blk w6 g1 3 (iv x1) := HL4.out.below' hb6
      have HC := Lib.hid (sameInts_any (some ⟨g1, 0, none⟩) (some ⟨g2, 0, none⟩) N N N N x1 x1 w6 w6.heap.size (hB1.rdI hB1.lt) (hblk2.rdI hblk2.lt) HX1L.out HX1L.out (by unfold maxLen; omega))
      rw [decide_eq_true rfl] at HC
      have HFIN := Lib.hid (HB0.out.trans (hb6'.mono (Nat.le_succ _)))
      clear HBW hb6 hb6' hB1 hblk2 hg2 HL4 c0 c1 c2 c3 c4 c5 k3
      go_wp2_with fail
      refine HC.out.mono ?_
      rintro e w7 ⟨rfl, hd7⟩
      have hb7 : Below w6.heap.size w6 w7 := by obtain ⟨d, rfl⟩ := hd7; exact ⟨rfl, rfl, rfl, Nat.le_refl _, fun _ _ => rfl⟩
      have hz6 : w.heap.size ≤ w6.heap.size := HFIN.out.size
      replace HC := Lib.hid (sameInts_any none none 0 0 0 0 [] [] w7 w7.heap.size (Rd.nil _ _ _) (Rd.nil _ _ _) rfl rfl (Nat.zero_le _))
      rw [decide_eq_true rfl] at HC
      have HFIN7 := Lib.hid (HFIN.out.trans (hb7.mono hz6))
      have hz7 : w.heap.size ≤ w7.heap.size := HFIN7.out.size
      clear hd7 hb7 HFIN
      go_wp2_with fail
      refine HC.out.mono ?_
      rintro e w8 ⟨rfl, hd8⟩
      have hb8 : Below w7.heap.size w7 w8 := by obtain ⟨d, rfl⟩ := hd8; exact ⟨rfl, rfl, rfl, Nat.le_refl _, fun _ _ => rfl⟩
      have HF8 := Lib.hid (HFIN7.out.trans (hb8.mono hz7))
      clear hd8 hb8
      go_wp2
      go_ret
      exact ⟨rfl, HF8.out⟩
  · as_aux_lemma =>
      obtain ⟨m, rfl⟩ := Int.eq_ofNat_of_zero_le (show 0 ≤ n by omega)
      have hmN : m < N := by have := HN.out; omega
      have HC := Lib.hid (shortest_yes G Ap Al As np cp nl cl ns cs m w3 B N T k2 k1 HK.out HN.out HT.out hmN)
      clear k1 k2 hn
      go_wp2_with fail
      refine HC.out.mono ?_
      rintro e w4 ⟨⟨x, hxs, hxl, hcase⟩, hb4⟩
      have HXS := Lib.hid hxs; have HXL := Lib.hid hxl
      clear hxs hxl
      have hb4' := HBW.out.trans (hb4.mono k3)
      have HL3 : Hid (Blk w4 g1 3 (iv x1)) := Lib.hid (HL2.out.below' hb4)
      clear HC HBW c0 c1 c2 c3 c4 c5 hb4 k3 HL2
      obtain ⟨⟨c0, c1, c2, c3, c4, c5⟩, k1, k2, k3⟩ := KEY.out w4 hb4'
      have HC := Lib.hid (rshortest_yes G Ap Al As np cp nl cl ns cs m w4 B N T k2 k1 HK.out HN.out HT.out hmN)
      have HBW := Lib.hid hb4'
      clear k1 k2 hb4'
      rcases hcase with ⟨hno, rfl⟩ | ⟨h0, h1, sp, l, A4, c4', hgd, hsp, rfl, hlc, hcm, hrd⟩
      · as_aux_lemma =>
          have HNO := Lib.hid hno; clear hno
          go_wp2_with fail
          refine HC.out.mono ?_
          rintro e w5 ⟨⟨st, hh, hfx, hc2⟩, hb5⟩
          have hnone := same_none HXS.out hh HNO.out
          rcases hc2 with ⟨_, rfl⟩ | ⟨l, A, c, hsn, _⟩
          · clear hh hfx hnone
            have hb5' := HBW.out.trans (hb5.mono k3)
            have HL4 : Hid (Blk w5 g1 3 (iv x1)) := Lib.hid (HL3.out.below' hb5)
            clear HC HBW c0 c1 c2 c3 c4 c5 hb5 k3 HL3
            obtain ⟨⟨c0, c1, c2, c3, c4, c5⟩, k1, k2, k3⟩ := KEY.out w5 hb5'
            have HC := Lib.hid (rshort_any G Ap Al As np cp nl cl ns cs w5 B N k2 k1 HK.out HN.out)
            have HBW := Lib.hid hb5'
            clear k1 k2 hb5'
            go_wp2_with fail
            refine HC.out.mono ?_
            rintro e w6 ⟨g2, rfl, hg2, hblk2, hb6⟩
            rw [← HX1.out] at hblk2
            have hb6' := HBW.out.trans (hb6.mono k3)
            have hB1 : Blk w6 g1 3 (iv x1) := HL4.out.below' hb6
            have HC := Lib.hid (sameInts_any (some ⟨g1, 0, none⟩) (some ⟨g2, 0, none⟩) N N N N x1 x1 w6 w6.heap.size (hB1.rdI hB1.lt) (hblk2.rdI hblk2.lt) HX1L.out HX1L.out (by unfold maxLen; omega))
            rw [decide_eq_true rfl] at HC
            have HFIN := Lib.hid (HB0.out.trans (hb6'.mono (Nat.le_succ _)))
            clear HBW hb6 hb6' hB1 hblk2 hg2 HL4 c0 c1 c2 c3 c4 c5 k3
            go_wp2_with fail
            refine HC.out.mono ?_
            rintro e w7 ⟨rfl, hd7⟩
            have hb7 : Below w6.heap.size w6 w7 := by obtain ⟨d, rfl⟩ := hd7; exact ⟨rfl, rfl, rfl, Nat.le_refl _, fun _ _ => rfl⟩
            have hz6 : w.heap.size ≤ w6.heap.size := HFIN.out.size
            replace HC := Lib.hid (sameInts_any none none 0 0 0 0 [] [] w7 w7.heap.size (Rd.nil _ _ _) (Rd.nil _ _ _) rfl rfl (Nat.zero_le _))
            rw [decide_eq_true rfl] at HC
            have HFIN7 := Lib.hid (HFIN.out.trans (hb7.mono hz6))
            have hz7 : w.heap.size ≤ w7.heap.size := HFIN7.out.size
            clear hd7 hb7 HFIN
            go_wp2_with fail
            refine HC.out.mono ?_
            rintro e w8 ⟨rfl, hd8⟩
            have hb8 : Below w7.heap.size w7 w8 := by obtain ⟨d, rfl⟩ := hd8; exact ⟨rfl, rfl, rfl, Nat.le_refl _, fun _ _ => rfl⟩
            have HF8 := Lib.hid (HFIN7.out.trans (hb8.mono hz7))
            clear hd8 hb8
            go_wp2
            go_ret
            exact ⟨rfl, HF8.out⟩
          · rw [hnone] at hsn; cases hsn
      · as_aux_lemma =>
          have HGD := Lib.hid hgd; have HSP := Lib.hid hsp; have HS4 := Lib.hid hrd; have H0 := Lib.hid h0; have H1 := Lib.hid h1; have HLL : Hid (l.length ≤ maxLen) := Lib.hid (Nat.le_trans hlc hcm)
          clear hgd hsp hrd h0 h1 hlc hcm
          go_wp2_with fail
          refine HC.out.mono ?_
          rintro e w5 ⟨⟨st, hh, hfx, hc2⟩, hb5⟩
          obtain ⟨b, hb1, hb2⟩ := same_some HXS.out hh hfx (by rw [HXL.out]; exact hmN) H0.out H1.out HGD.out
          have hbl : b = l := by have := HSP.out; rw [hb1] at this; exact Option.some.inj this
          subst hbl
          rcases hc2 with ⟨hsn, _⟩ | ⟨l2, A5, c5', hsn, rfl, _, _, hw5⟩
          · rw [hb2] at hsn; cases hsn
          · have hl2 : l2 = b := by rw [hb2] at hsn; exact (Option.some.inj hsn).symm
            subst hl2
            have HW5 := Lib.hid hw5
            clear hh hfx hb1 hb2 hsn hw5
            have hb5' := HBW.out.trans (hb5.mono k3)
            have HL4 : Hid (Blk w5 g1 3 (iv x1)) := Lib.hid (HL3.out.below' hb5)
            have HS5 := Lib.hid (HS4.out.keep (S := fun _ => False) (Kp.of hb5) (fun _ _ e => e))
            clear HC HBW c0 c1 c2 c3 c4 c5 hb5 k3 HL3
            obtain ⟨⟨c0, c1, c2, c3, c4, c5⟩, k1, k2, k3⟩ := KEY.out w5 hb5'
            have HC := Lib.hid (rshort_any G Ap Al As np cp nl cl ns cs w5 B N k2 k1 HK.out HN.out)
            have HBW := Lib.hid hb5'
            clear k1 k2 hb5'
            go_wp2_with fail
            refine HC.out.mono ?_
            rintro e w6 ⟨g2, rfl, hg2, hblk2, hb6⟩
            rw [← HX1.out] at hblk2
            have hb6' := HBW.out.trans (hb6.mono k3)
            have hB1 : Blk w6 g1 3 (iv x1) := HL4.out.below' hb6
            have hS6 := HS5.out.keep (S := fun _ => False) (Kp.of hb6) (fun _ _ e => e)
            have hW6 := HW5.out.keep (S := fun _ => False) (Kp.of hb6) (fun _ _ e => e)
            have HC := Lib.hid (sameInts_any (some ⟨g1, 0, none⟩) (some ⟨g2, 0, none⟩) N N N N x1 x1 w6 w6.heap.size (hB1.rdI hB1.lt) (hblk2.rdI hblk2.lt) HX1L.out HX1L.out (by unfold maxLen; omega))
            rw [decide_eq_true rfl] at HC
            have HFIN := Lib.hid (HB0.out.trans (hb6'.mono (Nat.le_succ _)))
            clear HBW hb6 hb6' hB1 hblk2 hg2 HL4 c0 c1 c2 c3 c4 c5 k3
            go_wp2_with fail
            refine HC.out.mono ?_
            rintro e w7 ⟨rfl, hd7⟩
            have hb7 : Below w6.heap.size w6 w7 := by obtain ⟨d, rfl⟩ := hd7; exact ⟨rfl, rfl, rfl, Nat.le_refl _, fun _ _ => rfl⟩
            have hz6 : w.heap.size ≤ w6.heap.size := HFIN.out.size
            replace HC := Lib.hid (sameInts_any A4 A5 c4' c5' l2.length l2.length l2 l2 w7 w7.heap.size ((hS6.keep (S := fun _ => False) (Kp.of hb7) (fun _ _ e => e)).rdI) ((hW6.keep (S := fun _ => False) (Kp.of hb7) (fun _ _ e => e)).rdI) rfl rfl (by have := HLL.out; unfold maxLen at this ⊢; omega))
            clear hS6 hW6
            rw [decide_eq_true rfl] at HC
            have HFIN7 := Lib.hid (HFIN.out.trans (hb7.mono hz6))
            have hz7 : w.heap.size ≤ w7.heap.size := HFIN7.out.size
            clear hd7 hb7 HFIN
            go_wp2_with fail
            refine HC.out.mono ?_
            rintro e w8 ⟨rfl, hd8⟩
            have hb8 : Below w7.heap.size w7 w8 := by obtain ⟨d, rfl⟩ := hd8; exact ⟨rfl, rfl, rfl, Nat.le_refl _, fun _ _ => rfl⟩
            have HF8 := Lib.hid (HFIN7.out.trans (hb8.mono hz7))
            clear hd8 hb8
            go_wp2
            go_ret
            exact ⟨rfl, HF8.out⟩

theorem short_law_big (G : Gr) (Ap Al As : Option Addr) (np cp nl cl ns cs : Nat) (n : Int) (w : World) (B : Nat) (hB : B ≤ w.heap.size) (hG : GrIn w B G Ap Al As np cp nl cl ns cs) (hsm : smallB G = false) :
    Calls Try.prog 4 #[.agg #[.int .i64 G.terms, .int .i64 G.names, .int .i64 G.start, .slice Ap np cp, .slice Al nl cl, .slice As ns cs], .int .i64 n] w fun e w' => e = .returned (.bool true) ∧ Below w.heap.size w w' := by
  obtain ⟨hb0, hs0, gb⟩ := gbox w G Ap Al As np cp nl cl ns cs
  obtain ⟨hp1, hp2⟩ := hG.p.len
  have hl3 := hG.lm; have hl4 := hG.sm
  have hC1 := small_any G Ap Al As np cp nl cl ns cs (w.alloc (.cells #[.int .i64 G.terms, .int .i64 G.names, .int .i64 G.start, .slice Ap np cp, .slice Al nl cl, .slice As ns cs] 30)) B (Nat.le_trans hB hb0.size) (hG.below (hb0.mono hB))
  rw [hsm, hs0] at hC1
  have HC1 := Lib.hid hC1; have HB0 := Lib.hid hb0
  unfold maxLen at hp2 hl3 hl4
  clear hC1 hG gb hp1 hsm hb0 hs0
  go_enter Try.func4, Try.ntmps4
  go_wp2_with fail
  refine HC1.out.mono ?_
  rintro e w1 ⟨rfl, hb1⟩
  go_wp2
  go_ret
  exact ⟨rfl, HB0.out.trans (hb1.mono (Nat.le_succ _))⟩

theorem walk_GrammarShort (w : World) (v : Value) (hv : IsGrammar w v) (n : Int) (hn : (Lit.int .i64 n).wf = true) :
    Calls Try.prog 4 #[v, .int .i64 n] w fun e w' => e = .returned (.bool true) ∧ Below w.heap.size w w' := by
  obtain ⟨G, Ap, Al, As, np, cp, nl, cl, ns, cs, rfl, hG⟩ := hv
  by_cases hs : GSmall G
  · by_cases hk : GOk G
    · exact short_law_good G Ap Al As np cp nl cl ns cs n w w.heap.size (Nat.le_refl _) hG hs hk
    · exact short_law_bad G Ap Al As np cp nl cl ns cs n w w.heap.size (Nat.le_refl _) hG hs (okB_f hk)
  · exact short_law_big G Ap Al As np cp nl cl ns cs n w w.heap.size (Nat.le_refl _) hG (smallB_f hs)
end Go.Proofs.Ytgfchgnebpogjaa
