/- The law GrammarTold walked: it returns true. -/
import Derived.Test.YtgfchgnebpogjaaZ13
import Derived.Test.YtgfchgnebpogjaaZ17
import Derived.Test.YtgfchgnebpogjaaZ24
import Derived.Test.YtgfchgnebpogjaaZ23
import Derived.Test.YtgfchgnebpogjaaZ22
import Derived.Test.YtgfchgnebpogjaaZ25
namespace Go.Proofs.Ytgfchgnebpogjaa
open Go.RowKit
set_option linter.unusedVariables false
set_option linter.unusedSimpArgs false
set_option maxRecDepth 100000

theorem told_bad (G : Gr) (Ap Al As : Option Addr) (np cp nl cl ns cs : Nat) (w : World) (B : Nat) (hB : B ≤ w.heap.size) (hG : GrIn w B G Ap Al As np cp nl cl ns cs) (hsm : GSmall G) (hk : okB G = false) :
    Calls Try.prog 6 #[.agg #[.int .i64 G.terms, .int .i64 G.names, .int .i64 G.start, .slice Ap np cp, .slice Al nl cl, .slice As ns cs]] w fun e w' => e = .returned (.bool true) ∧ Below w.heap.size w w' := by
  obtain ⟨hb0, hs0, gb⟩ := gbox w G Ap Al As np cp nl cl ns cs
  obtain ⟨hp1, hp2⟩ := hG.p.len
  have hl3 := hG.lm; have hl4 := hG.sm
  have hG0 := hG.below (hb0.mono hB)
  have hC1 := small_any G Ap Al As np cp nl cl ns cs (w.alloc (.cells #[.int .i64 G.terms, .int .i64 G.names, .int .i64 G.start, .slice Ap np cp, .slice Al nl cl, .slice As ns cs] 30)) B (Nat.le_trans hB hb0.size) hG0
  rw [smallB_t hsm, hs0] at hC1
  have HC1 := Lib.hid hC1; have HB0 := Lib.hid hb0; have HGB := Lib.hid gb; have HG := Lib.hid hG0
  have HK := Lib.hid hk
  unfold maxLen at hp2 hl3 hl4
  have HP1 := Lib.hid hp1
  clear hC1 hG gb hG0 hp1 hk hsm
  go_enter Try.func6, Try.ntmps6
  go_wp2_with fail
  generalize w.alloc (.cells #[.int .i64 G.terms, .int .i64 G.names, .int .i64 G.start, .slice Ap np cp, .slice Al nl cl, .slice As ns cs] 30) = W0 at *
  refine HC1.out.mono ?_
  rintro e w1 ⟨rfl, hb1⟩
  have key : ∀ wk, Below (w.heap.size + 1) W0 wk → GrBox wk w.heap.size G Ap Al As np cp nl cl ns cs ∧ GrIn wk B G Ap Al As np cp nl cl ns cs ∧ B ≤ wk.heap.size ∧ w.heap.size + 1 ≤ wk.heap.size := fun wk h => by
    have := gkeep HGB.out HG.out h (by omega)
    have hz := h.size
    exact ⟨this.1, this.2, by omega, by omega⟩
  have KEY := Lib.hid key
  have HW1 := Lib.hid hb1
  clear key HC1 hb1
  obtain ⟨⟨c0, c1, c2, c3, c4, c5⟩, k1, k2, k3⟩ := KEY.out w1 HW1.out
  have HC := Lib.hid (rok_any G Ap Al As np cp nl cl ns cs w1 B k2 k1)
  rw [HK.out] at HC
  clear k1 k2
  go_wp2_with fail
  refine HC.out.mono ?_
  rintro e w2 ⟨rfl, hb⟩
  have HW2 := Lib.hid (HW1.out.trans (hb.mono k3))
  clear HC HW1 c0 c1 c2 c3 c4 c5 hb k3 
  obtain ⟨⟨c0, c1, c2, c3, c4, c5⟩, k1, k2, k3⟩ := KEY.out w2 HW2.out
  have HC := Lib.hid (ok_any G Ap Al As np cp nl cl ns cs w2 B k2 k1)
  rw [HK.out] at HC
  clear k1 k2
  go_wp2_with fail
  refine HC.out.mono ?_
  rintro e w3 ⟨rfl, hb⟩
  have HW3 := Lib.hid (HW2.out.trans (hb.mono k3))
  clear HC HW2 c0 c1 c2 c3 c4 c5 hb k3 
  obtain ⟨⟨c0, c1, c2, c3, c4, c5⟩, k1, k2, k3⟩ := KEY.out w3 HW3.out
  have HC := Lib.hid (LivesT_bad G Ap Al As np cp nl cl ns cs w3 B k2 k1 HK.out)
  clear k1 k2
  go_wp2_with fail
  refine HC.out.mono ?_
  rintro e w4 ⟨rfl, hb⟩
  have HW4 := Lib.hid (HW3.out.trans (hb.mono k3))
  clear HC HW3 c0 c1 c2 c3 c4 c5 hb k3 
  obtain ⟨⟨c0, c1, c2, c3, c4, c5⟩, k1, k2, k3⟩ := KEY.out w4 HW4.out
  have HC := Lib.hid (UsedT_bad G Ap Al As np cp nl cl ns cs w4 B k2 k1 HK.out)
  clear k1 k2
  go_wp2_with fail
  refine HC.out.mono ?_
  rintro e w5 ⟨rfl, hb⟩
  have HW5 := Lib.hid (HW4.out.trans (hb.mono k3))
  clear HC HW4 c0 c1 c2 c3 c4 c5 hb k3 
  obtain ⟨⟨c0, c1, c2, c3, c4, c5⟩, k1, k2, k3⟩ := KEY.out w5 HW5.out
  have HC := Lib.hid (EmptyT_bad G Ap Al As np cp nl cl ns cs w5 B k2 k1 HK.out)
  clear k1 k2
  go_wp2_with fail
  refine HC.out.mono ?_
  rintro e w6 ⟨rfl, hb⟩
  have HW6 := Lib.hid (HW5.out.trans (hb.mono k3))
  clear HC HW5 c0 c1 c2 c3 c4 c5 hb k3 
  obtain ⟨⟨c0, c1, c2, c3, c4, c5⟩, k1, k2, k3⟩ := KEY.out w6 HW6.out
  have HC := Lib.hid (LoopsT_bad G Ap Al As np cp nl cl ns cs w6 B k2 k1 HK.out)
  clear k1 k2
  go_wp2_with fail
  refine HC.out.mono ?_
  rintro e w7 ⟨rfl, hb⟩
  have HW7 := Lib.hid (HW6.out.trans (hb.mono k3))
  clear HC HW6 c0 c1 c2 c3 c4 c5 hb k3 
  obtain ⟨⟨c0, c1, c2, c3, c4, c5⟩, k1, k2, k3⟩ := KEY.out w7 HW7.out
  have HC := Lib.hid (FirstT_bad G Ap Al As np cp nl cl ns cs w7 B k2 k1 HK.out)
  clear k1 k2
  go_wp2_with fail
  refine HC.out.mono ?_
  rintro e w8 ⟨rfl, hb⟩
  have HW8 := Lib.hid (HW7.out.trans (hb.mono k3))
  clear HC HW7 c0 c1 c2 c3 c4 c5 hb k3 
  obtain ⟨⟨c0, c1, c2, c3, c4, c5⟩, k1, k2, k3⟩ := KEY.out w8 HW8.out
  have HC := Lib.hid (FollowT_bad G Ap Al As np cp nl cl ns cs w8 B k2 k1 HK.out)
  clear k1 k2
  go_wp2_with fail
  refine HC.out.mono ?_
  rintro e w9 ⟨rfl, hb⟩
  have HW9 := Lib.hid (HW8.out.trans (hb.mono k3))
  clear HC HW8 c0 c1 c2 c3 c4 c5 hb k3 
  go_wp2_with fail
  go_ret
  exact ⟨rfl, HB0.out.trans (HW9.out.mono (Nat.le_succ _))⟩

set_option maxHeartbeats 4000000 in
theorem told_good (G : Gr) (Ap Al As : Option Addr) (np cp nl cl ns cs : Nat) (w : World) (B : Nat) (hB : B ≤ w.heap.size) (hG : GrIn w B G Ap Al As np cp nl cl ns cs) (hsm : GSmall G) (hk : GOk G) :
    Calls Try.prog 6 #[.agg #[.int .i64 G.terms, .int .i64 G.names, .int .i64 G.start, .slice Ap np cp, .slice Al nl cl, .slice As ns cs]] w fun e w' => e = .returned (.bool true) ∧ Below w.heap.size w w' := by
  obtain ⟨hb0, hs0, gb⟩ := gbox w G Ap Al As np cp nl cl ns cs
  obtain ⟨hp1, hp2⟩ := hG.p.len
  have hl3 := hG.lm; have hl4 := hG.sm
  have hG0 := hG.below (hb0.mono hB)
  have hC1 := small_any G Ap Al As np cp nl cl ns cs (w.alloc (.cells #[.int .i64 G.terms, .int .i64 G.names, .int .i64 G.start, .slice Ap np cp, .slice Al nl cl, .slice As ns cs] 30)) B (Nat.le_trans hB hb0.size) hG0
  rw [smallB_t hsm, hs0] at hC1
  have HC1 := Lib.hid hC1; have HB0 := Lib.hid hb0; have HGB := Lib.hid gb; have HG := Lib.hid hG0
  have HK := Lib.hid hk
  have hn0 := hk.n0; have hn1 := hk.n1; have ht1 := hk.t1; have ht0 := hk.t0; have hp4 := hk.p
  obtain ⟨N, hN⟩ := Int.eq_ofNat_of_zero_le (show 0 ≤ G.names by omega)
  obtain ⟨T, hT⟩ := Int.eq_ofNat_of_zero_le ht0
  have hNN : N ≤ 300 := by omega
  have hnp : np ≤ 400 := by omega
  have hok := okB_t hk
  have HN := Lib.hid hN; have HT := Lib.hid hT; have HOK := Lib.hid hok
  have hLVl : (rounds (stepG livS) G.prods N (b0 N)).length = N := growN_len N
  have hEMl : (rounds (stepG empS) G.prods N (b0 N)).length = N := growN_len N
  have HLVl := Lib.hid hLVl; have HEMl := Lib.hid hEMl
  clear hN hT hok hn0 hn1 ht1 ht0 hp4 hLVl hEMl
  unfold maxLen at hp2 hl3 hl4
  have HP1 := Lib.hid hp1
  clear hC1 hG gb hG0 hp1 hk hsm
  go_enter Try.func6, Try.ntmps6
  go_wp2_with fail
  generalize w.alloc (.cells #[.int .i64 G.terms, .int .i64 G.names, .int .i64 G.start, .slice Ap np cp, .slice Al nl cl, .slice As ns cs] 30) = W0 at *
  refine HC1.out.mono ?_
  rintro e w1 ⟨rfl, hb1⟩
  have key : ∀ wk, Below (w.heap.size + 1) W0 wk → GrBox wk w.heap.size G Ap Al As np cp nl cl ns cs ∧ GrIn wk B G Ap Al As np cp nl cl ns cs ∧ B ≤ wk.heap.size ∧ w.heap.size + 1 ≤ wk.heap.size := fun wk h => by
    have := gkeep HGB.out HG.out h (by omega)
    have hz := h.size
    exact ⟨this.1, this.2, by omega, by omega⟩
  have KEY := Lib.hid key
  have HW1 := Lib.hid hb1
  clear key HC1 hb1
  obtain ⟨⟨c0, c1, c2, c3, c4, c5⟩, k1, k2, k3⟩ := KEY.out w1 HW1.out
  have HC := Lib.hid (rok_any G Ap Al As np cp nl cl ns cs w1 B k2 k1)
  rw [HOK.out] at HC
  clear k1 k2
  go_wp2_with fail
  refine HC.out.mono ?_
  rintro e w2 ⟨rfl, hb⟩
  have HW2 := Lib.hid (HW1.out.trans (hb.mono k3))
  clear HC HW1 c0 c1 c2 c3 c4 c5 hb k3 
  obtain ⟨⟨c0, c1, c2, c3, c4, c5⟩, k1, k2, k3⟩ := KEY.out w2 HW2.out
  have HC := Lib.hid (ok_any G Ap Al As np cp nl cl ns cs w2 B k2 k1)
  rw [HOK.out] at HC
  clear k1 k2
  go_wp2_with fail
  refine HC.out.mono ?_
  rintro e w3 ⟨rfl, hb⟩
  have HW3 := Lib.hid (HW2.out.trans (hb.mono k3))
  clear HC HW2 c0 c1 c2 c3 c4 c5 hb k3 
  obtain ⟨⟨c0, c1, c2, c3, c4, c5⟩, k1, k2, k3⟩ := KEY.out w3 HW3.out
  have HC := Lib.hid (LivesT_good G Ap Al As np cp nl cl ns cs w3 B N k2 k1 HK.out HN.out)
  clear k1 k2
  go_wp2_with fail
  refine HC.out.mono ?_
  rintro e w4 ⟨g1, rfl, _, hblk, hb⟩
  have HW4 := Lib.hid (HW3.out.trans (hb.mono k3))
  have F1 := Lib.hid (hblk)
  clear HC HW3 c0 c1 c2 c3 c4 c5 hb k3 hblk
  obtain ⟨⟨c0, c1, c2, c3, c4, c5⟩, k1, k2, k3⟩ := KEY.out w4 HW4.out
  have HC := Lib.hid (UsedT_good G Ap Al As np cp nl cl ns cs w4 B N k2 k1 HK.out HN.out)
  clear k1 k2
  go_wp2_with fail
  refine HC.out.mono ?_
  rintro e w5 ⟨g2, u1, rfl, _, hblk, hU, hb⟩
  have HW5 := Lib.hid (HW4.out.trans (hb.mono k3))
  replace F1 := Lib.hid (F1.out.below' hb)
  have F2 := Lib.hid (hblk)
  have U1 := Lib.hid (hU)
  clear HC HW4 c0 c1 c2 c3 c4 c5 hb k3 hblk hU
  obtain ⟨⟨c0, c1, c2, c3, c4, c5⟩, k1, k2, k3⟩ := KEY.out w5 HW5.out
  have HC := Lib.hid (EmptyT_good G Ap Al As np cp nl cl ns cs w5 B N k2 k1 HK.out HN.out)
  clear k1 k2
  go_wp2_with fail
  refine HC.out.mono ?_
  rintro e w6 ⟨g3, rfl, _, hblk, hb⟩
  have HW6 := Lib.hid (HW5.out.trans (hb.mono k3))
  replace F1 := Lib.hid (F1.out.below' hb)
  replace F2 := Lib.hid (F2.out.below' hb)
  have F3 := Lib.hid (hblk)
  clear HC HW5 c0 c1 c2 c3 c4 c5 hb k3 hblk
  obtain ⟨⟨c0, c1, c2, c3, c4, c5⟩, k1, k2, k3⟩ := KEY.out w6 HW6.out
  have HC := Lib.hid (LoopsT_good G Ap Al As np cp nl cl ns cs w6 B N k2 k1 HK.out HN.out)
  clear k1 k2
  go_wp2_with fail
  refine HC.out.mono ?_
  rintro e w7 ⟨g4, l4, rfl, _, hblk, hlen, hiff, hb⟩
  have HW7 := Lib.hid (HW6.out.trans (hb.mono k3))
  replace F1 := Lib.hid (F1.out.below' hb)
  replace F2 := Lib.hid (F2.out.below' hb)
  replace F3 := Lib.hid (F3.out.below' hb)
  have F4 := Lib.hid (hblk)
  have L4 := Lib.hid (hlen)
  have I4 := Lib.hid (hiff)
  clear HC HW6 c0 c1 c2 c3 c4 c5 hb k3 hblk hlen hiff
  obtain ⟨⟨c0, c1, c2, c3, c4, c5⟩, k1, k2, k3⟩ := KEY.out w7 HW7.out
  have HC := Lib.hid (FirstT_good G Ap Al As np cp nl cl ns cs w7 B N T k2 k1 HK.out HN.out HT.out)
  clear k1 k2
  go_wp2_with fail
  refine HC.out.mono ?_
  rintro e w8 ⟨g5, rfl, _, hL, hb⟩
  have HW8 := Lib.hid (HW7.out.trans (hb.mono k3))
  replace F1 := Lib.hid (F1.out.below' hb)
  replace F2 := Lib.hid (F2.out.below' hb)
  replace F3 := Lib.hid (F3.out.below' hb)
  replace F4 := Lib.hid (F4.out.below' hb)
  have F5 := Lib.hid (hL.toR)
  clear HC HW7 c0 c1 c2 c3 c4 c5 hb k3 hL
  obtain ⟨⟨c0, c1, c2, c3, c4, c5⟩, k1, k2, k3⟩ := KEY.out w8 HW8.out
  have HC := Lib.hid (FollowT_good G Ap Al As np cp nl cl ns cs w8 B N T k2 k1 HK.out HN.out HT.out)
  clear k1 k2
  go_wp2_with fail
  refine HC.out.mono ?_
  rintro e w9 ⟨g6, M6, u6, rfl, _, hU, hok, hL, hb⟩
  have HW9 := Lib.hid (HW8.out.trans (hb.mono k3))
  replace F1 := Lib.hid (F1.out.below' hb)
  replace F2 := Lib.hid (F2.out.below' hb)
  replace F3 := Lib.hid (F3.out.below' hb)
  replace F4 := Lib.hid (F4.out.below' hb)
  replace F5 := Lib.hid ((F5.out.below hb).more hb.size)
  have F6 := Lib.hid (hL.toR)
  have U6 := Lib.hid (hU)
  have O6 := Lib.hid (hok)
  clear HC HW8 c0 c1 c2 c3 c4 c5 hb k3 hU hok hL
  obtain ⟨⟨c0, c1, c2, c3, c4, c5⟩, k1, k2, k3⟩ := KEY.out w9 HW9.out
  have HC := Lib.hid (rLivesT_any G Ap Al As np cp nl cl ns cs w9 B N k2 k1 HK.out HN.out)
  clear k1 k2
  go_wp2_with fail
  refine HC.out.mono ?_
  rintro e w10 ⟨h1, rfl, _, hblk, hb⟩
  have HW10 := Lib.hid (HW9.out.trans (hb.mono k3))
  replace F1 := Lib.hid (F1.out.below' hb)
  replace F2 := Lib.hid (F2.out.below' hb)
  replace F3 := Lib.hid (F3.out.below' hb)
  replace F4 := Lib.hid (F4.out.below' hb)
  replace F5 := Lib.hid ((F5.out.below hb).more hb.size)
  replace F6 := Lib.hid ((F6.out.below hb).more hb.size)
  have FX := Lib.hid (hblk)
  clear HC HW9 c0 c1 c2 c3 c4 c5 hb k3 hblk
  obtain ⟨⟨c0, c1, c2, c3, c4, c5⟩, k1, k2, k3⟩ := KEY.out w10 HW10.out
  have HC := Lib.hid (sameBools_eq g1 h1 N N N _ w10 F1.out FX.out HLVl.out (by omega))
  clear k1 k2
  go_wp2_with fail
  refine HC.out.mono ?_
  rintro e w11 ⟨rfl, hb⟩
  have HW11 := Lib.hid (HW10.out.trans (hb.mono k3))
  replace F1 := Lib.hid (F1.out.below' hb)
  replace F2 := Lib.hid (F2.out.below' hb)
  replace F3 := Lib.hid (F3.out.below' hb)
  replace F4 := Lib.hid (F4.out.below' hb)
  replace F5 := Lib.hid ((F5.out.below hb).more hb.size)
  replace F6 := Lib.hid ((F6.out.below hb).more hb.size)
  clear HC HW10 c0 c1 c2 c3 c4 c5 hb k3 
  obtain ⟨⟨c0, c1, c2, c3, c4, c5⟩, k1, k2, k3⟩ := KEY.out w11 HW11.out
  have HC := Lib.hid (rUsed_any G Ap Al As np cp nl cl ns cs w11 B N k2 k1 HK.out HN.out)
  clear k1 k2
  go_wp2_with fail
  refine HC.out.mono ?_
  rintro e w12 ⟨h2, u2, rfl, _, hblk, hU, hb⟩
  have HW12 := Lib.hid (HW11.out.trans (hb.mono k3))
  replace F1 := Lib.hid (F1.out.below' hb)
  replace F2 := Lib.hid (F2.out.below' hb)
  replace F3 := Lib.hid (F3.out.below' hb)
  replace F4 := Lib.hid (F4.out.below' hb)
  replace F5 := Lib.hid ((F5.out.below hb).more hb.size)
  replace F6 := Lib.hid ((F6.out.below hb).more hb.size)
  have FX2 := Lib.hid (hblk)
  have U2 := Lib.hid (hU)
  clear HC HW11 c0 c1 c2 c3 c4 c5 hb k3 hblk hU
  obtain rfl := U1.out.same U2.out
  obtain ⟨⟨c0, c1, c2, c3, c4, c5⟩, k1, k2, k3⟩ := KEY.out w12 HW12.out
  have HC := Lib.hid (sameBools_eq g2 h2 np np np _ w12 F2.out FX2.out (U1.out.1.trans HP1.out) (by omega))
  clear k1 k2
  go_wp2_with fail
  refine HC.out.mono ?_
  rintro e w13 ⟨rfl, hb⟩
  have HW13 := Lib.hid (HW12.out.trans (hb.mono k3))
  replace F1 := Lib.hid (F1.out.below' hb)
  replace F2 := Lib.hid (F2.out.below' hb)
  replace F3 := Lib.hid (F3.out.below' hb)
  replace F4 := Lib.hid (F4.out.below' hb)
  replace F5 := Lib.hid ((F5.out.below hb).more hb.size)
  replace F6 := Lib.hid ((F6.out.below hb).more hb.size)
  clear HC HW12 c0 c1 c2 c3 c4 c5 hb k3 
  obtain ⟨⟨c0, c1, c2, c3, c4, c5⟩, k1, k2, k3⟩ := KEY.out w13 HW13.out
  have HC := Lib.hid (rEmptyT_any G Ap Al As np cp nl cl ns cs w13 B N k2 k1 HK.out HN.out)
  clear k1 k2
  go_wp2_with fail
  refine HC.out.mono ?_
  rintro e w14 ⟨h3, rfl, _, hblk, hb⟩
  have HW14 := Lib.hid (HW13.out.trans (hb.mono k3))
  replace F1 := Lib.hid (F1.out.below' hb)
  replace F2 := Lib.hid (F2.out.below' hb)
  replace F3 := Lib.hid (F3.out.below' hb)
  replace F4 := Lib.hid (F4.out.below' hb)
  replace F5 := Lib.hid ((F5.out.below hb).more hb.size)
  replace F6 := Lib.hid ((F6.out.below hb).more hb.size)
  have FX3 := Lib.hid (hblk)
  clear HC HW13 c0 c1 c2 c3 c4 c5 hb k3 hblk
  obtain ⟨⟨c0, c1, c2, c3, c4, c5⟩, k1, k2, k3⟩ := KEY.out w14 HW14.out
  have HC := Lib.hid (sameBools_eq g3 h3 N N N _ w14 F3.out FX3.out HEMl.out (by omega))
  clear k1 k2
  go_wp2_with fail
  refine HC.out.mono ?_
  rintro e w15 ⟨rfl, hb⟩
  have HW15 := Lib.hid (HW14.out.trans (hb.mono k3))
  replace F1 := Lib.hid (F1.out.below' hb)
  replace F2 := Lib.hid (F2.out.below' hb)
  replace F3 := Lib.hid (F3.out.below' hb)
  replace F4 := Lib.hid (F4.out.below' hb)
  replace F5 := Lib.hid ((F5.out.below hb).more hb.size)
  replace F6 := Lib.hid ((F6.out.below hb).more hb.size)
  clear HC HW14 c0 c1 c2 c3 c4 c5 hb k3 
  obtain ⟨⟨c0, c1, c2, c3, c4, c5⟩, k1, k2, k3⟩ := KEY.out w15 HW15.out
  have HC := Lib.hid (rLoops_any G Ap Al As np cp nl cl ns cs w15 B N k2 k1 HK.out HN.out)
  clear k1 k2
  go_wp2_with fail
  refine HC.out.mono ?_
  rintro e w16 ⟨h4, l4', rfl, _, hblk, hlen, hiff, hb⟩
  have HW16 := Lib.hid (HW15.out.trans (hb.mono k3))
  replace F1 := Lib.hid (F1.out.below' hb)
  replace F2 := Lib.hid (F2.out.below' hb)
  replace F3 := Lib.hid (F3.out.below' hb)
  replace F4 := Lib.hid (F4.out.below' hb)
  replace F5 := Lib.hid ((F5.out.below hb).more hb.size)
  replace F6 := Lib.hid ((F6.out.below hb).more hb.size)
  have FX4 := Lib.hid (hblk)
  have L4b := Lib.hid (hlen)
  have I4b := Lib.hid (hiff)
  clear HC HW15 c0 c1 c2 c3 c4 c5 hb k3 hblk hlen hiff
  have hl4 : l4 = l4' := bth_ext L4.out L4b.out fun j hj => by rw [Bool.eq_iff_iff, I4.out j hj, I4b.out j hj]
  subst hl4
  obtain ⟨⟨c0, c1, c2, c3, c4, c5⟩, k1, k2, k3⟩ := KEY.out w16 HW16.out
  have HC := Lib.hid (sameBools_eq g4 h4 N N N _ w16 F4.out FX4.out L4.out (by omega))
  clear k1 k2
  go_wp2_with fail
  refine HC.out.mono ?_
  rintro e w17 ⟨rfl, hb⟩
  have HW17 := Lib.hid (HW16.out.trans (hb.mono k3))
  replace F1 := Lib.hid (F1.out.below' hb)
  replace F2 := Lib.hid (F2.out.below' hb)
  replace F3 := Lib.hid (F3.out.below' hb)
  replace F4 := Lib.hid (F4.out.below' hb)
  replace F5 := Lib.hid ((F5.out.below hb).more hb.size)
  replace F6 := Lib.hid ((F6.out.below hb).more hb.size)
  clear HC HW16 c0 c1 c2 c3 c4 c5 hb k3 
  obtain ⟨⟨c0, c1, c2, c3, c4, c5⟩, k1, k2, k3⟩ := KEY.out w17 HW17.out
  have HC := Lib.hid (rFirst_any G Ap Al As np cp nl cl ns cs w17 B N T k2 k1 HK.out HN.out HT.out)
  clear k1 k2
  go_wp2_with fail
  refine HC.out.mono ?_
  rintro e w18 ⟨h5, c5', rfl, _, _, _, hL, hb⟩
  have HW18 := Lib.hid (HW17.out.trans (hb.mono k3))
  replace F1 := Lib.hid (F1.out.below' hb)
  replace F2 := Lib.hid (F2.out.below' hb)
  replace F3 := Lib.hid (F3.out.below' hb)
  replace F4 := Lib.hid (F4.out.below' hb)
  replace F5 := Lib.hid ((F5.out.below hb).more hb.size)
  replace F6 := Lib.hid ((F6.out.below hb).more hb.size)
  have FX5 := Lib.hid (hL)
  clear HC HW17 c0 c1 c2 c3 c4 c5 hb k3 hL
  obtain ⟨⟨c0, c1, c2, c3, c4, c5⟩, k1, k2, k3⟩ := KEY.out w18 HW18.out
  have HC := Lib.hid (sameLists_eq g5 h5 N N c5' _ _ w18 (Nat.le_refl _) F5.out FX5.out (by omega))
  clear k1 k2
  go_wp2_with fail
  refine HC.out.mono ?_
  rintro e w19 ⟨rfl, hb⟩
  have HW19 := Lib.hid (HW18.out.trans (hb.mono k3))
  replace F1 := Lib.hid (F1.out.below' hb)
  replace F2 := Lib.hid (F2.out.below' hb)
  replace F3 := Lib.hid (F3.out.below' hb)
  replace F4 := Lib.hid (F4.out.below' hb)
  replace F5 := Lib.hid ((F5.out.below hb).more hb.size)
  replace F6 := Lib.hid ((F6.out.below hb).more hb.size)
  clear HC HW18 c0 c1 c2 c3 c4 c5 hb k3 
  obtain ⟨⟨c0, c1, c2, c3, c4, c5⟩, k1, k2, k3⟩ := KEY.out w19 HW19.out
  have HC := Lib.hid (rFollow_any G Ap Al As np cp nl cl ns cs w19 B N T k2 k1 HK.out HN.out HT.out)
  clear k1 k2
  go_wp2_with fail
  refine HC.out.mono ?_
  rintro e w20 ⟨h6, c6', M6', u6', rfl, _, _, _, hU, hok, hL, hb⟩
  have HW20 := Lib.hid (HW19.out.trans (hb.mono k3))
  replace F1 := Lib.hid (F1.out.below' hb)
  replace F2 := Lib.hid (F2.out.below' hb)
  replace F3 := Lib.hid (F3.out.below' hb)
  replace F4 := Lib.hid (F4.out.below' hb)
  replace F5 := Lib.hid ((F5.out.below hb).more hb.size)
  replace F6 := Lib.hid ((F6.out.below hb).more hb.size)
  have FX6 := Lib.hid (hL)
  have U6b := Lib.hid (hU)
  have O6b := Lib.hid (hok)
  clear HC HW19 c0 c1 c2 c3 c4 c5 hb k3 hU hok hL
  obtain rfl := U6.out.same U6b.out
  obtain rfl := O6.out.same O6b.out
  obtain ⟨⟨c0, c1, c2, c3, c4, c5⟩, k1, k2, k3⟩ := KEY.out w20 HW20.out
  have HC := Lib.hid (sameLists_eq g6 h6 N N c6' _ _ w20 (Nat.le_refl _) F6.out FX6.out (by omega))
  clear k1 k2
  go_wp2_with fail
  refine HC.out.mono ?_
  rintro e w21 ⟨rfl, hb⟩
  have HW21 := Lib.hid (HW20.out.trans (hb.mono k3))
  replace F1 := Lib.hid (F1.out.below' hb)
  replace F2 := Lib.hid (F2.out.below' hb)
  replace F3 := Lib.hid (F3.out.below' hb)
  replace F4 := Lib.hid (F4.out.below' hb)
  replace F5 := Lib.hid ((F5.out.below hb).more hb.size)
  replace F6 := Lib.hid ((F6.out.below hb).more hb.size)
  clear HC HW20 c0 c1 c2 c3 c4 c5 hb k3 
  go_wp2_with fail
  go_ret
  exact ⟨rfl, HB0.out.trans (HW21.out.mono (Nat.le_succ _))⟩

theorem told_big (G : Gr) (Ap Al As : Option Addr) (np cp nl cl ns cs : Nat) (w : World) (B : Nat) (hB : B ≤ w.heap.size) (hG : GrIn w B G Ap Al As np cp nl cl ns cs) (hsm : smallB G = false) :
    Calls Try.prog 6 #[.agg #[.int .i64 G.terms, .int .i64 G.names, .int .i64 G.start, .slice Ap np cp, .slice Al nl cl, .slice As ns cs]] w fun e w' => e = .returned (.bool true) ∧ Below w.heap.size w w' := by
  obtain ⟨hb0, hs0, gb⟩ := gbox w G Ap Al As np cp nl cl ns cs
  obtain ⟨hp1, hp2⟩ := hG.p.len
  have hl3 := hG.lm; have hl4 := hG.sm
  have hC1 := small_any G Ap Al As np cp nl cl ns cs (w.alloc (.cells #[.int .i64 G.terms, .int .i64 G.names, .int .i64 G.start, .slice Ap np cp, .slice Al nl cl, .slice As ns cs] 30)) B (Nat.le_trans hB hb0.size) (hG.below (hb0.mono hB))
  rw [hsm, hs0] at hC1
  have HC1 := Lib.hid hC1; have HB0 := Lib.hid hb0
  unfold maxLen at hp2 hl3 hl4
  clear hC1 hG gb hp1 hsm hb0 hs0
  go_enter Try.func6, Try.ntmps6
  go_wp2_with fail
  refine HC1.out.mono ?_
  rintro e w1 ⟨rfl, hb1⟩
  go_wp2
  go_ret
  exact ⟨rfl, HB0.out.trans (hb1.mono (Nat.le_succ _))⟩

theorem walk_GrammarTold (w : World) (v : Value) (hv : IsGrammar w v) :
    Calls Try.prog 6 #[v] w fun e w' => e = .returned (.bool true) ∧ Below w.heap.size w w' := by
  obtain ⟨G, Ap, Al, As, np, cp, nl, cl, ns, cs, rfl, hG⟩ := hv
  by_cases hs : GSmall G
  · by_cases hk : GOk G
    · exact told_good G Ap Al As np cp nl cl ns cs w w.heap.size (Nat.le_refl _) hG hs hk
    · exact told_bad G Ap Al As np cp nl cl ns cs w w.heap.size (Nat.le_refl _) hG hs (okB_f hk)
  · exact told_big G Ap Al As np cp nl cl ns cs w w.heap.size (Nat.le_refl _) hG (smallB_f hs)
end Go.Proofs.Ytgfchgnebpogjaa
