/- grammar.First. -/
import Derived.Test.YtgfchgnebpogjaaFt
namespace Go.Proofs.Ytgfchgnebpogjaa
open Go.RowKit BigFrame
set_option linter.unusedVariables false
set_option linter.unusedSimpArgs false
set_option maxRecDepth 100000

theorem FirstT_bad (G : Gr) (Ap Al As : Option Addr) (np cp nl cl ns cs : Nat) (w : World) (B : Nat) (hB : B ≤ w.heap.size) (hG : GrIn w B G Ap Al As np cp nl cl ns cs) (hk : okB G = false) :
    Calls Try.prog 20 #[.agg #[.int .i64 G.terms, .int .i64 G.names, .int .i64 G.start, .slice Ap np cp, .slice Al nl cl, .slice As ns cs]] w fun e w' => e = .returned (.slice none 0 0) ∧ Below w.heap.size w w' := by
  obtain ⟨hb0, hs0, gb⟩ := gbox w G Ap Al As np cp nl cl ns cs
  obtain ⟨hp1, hp2⟩ := hG.p.len
  have hl3 := hG.lm; have hl4 := hG.sm
  have hcall := ok_any G Ap Al As np cp nl cl ns cs (w.alloc (.cells #[.int .i64 G.terms, .int .i64 G.names, .int .i64 G.start, .slice Ap np cp, .slice Al nl cl, .slice As ns cs] 30)) B (Nat.le_trans hB hb0.size) (hG.below (hb0.mono hB))
  rw [hk, hs0] at hcall
  have HC := Lib.hid hcall; have HB0 := Lib.hid hb0
  unfold maxLen at hp2 hl3 hl4
  clear hcall gb hG hk hp1 hb0 hs0
  go_enter Try.func20, Try.ntmps20
  go_wp2_with (go_at_call 18; refine HC.out.mono ?_; rintro e w' ⟨rfl, hb⟩)
  go_ret
  exact ⟨rfl, HB0.out.trans (hb.mono (Nat.le_succ _))⟩
/-- The table of First. -/
def frT (G : Gr) (N T : Nat) : List (List Bool) := rounds (stepF (rounds (stepG livS) G.prods N (b0 N)) (rounds (stepG empS) G.prods N (b0 N))) G.prods N (m0 N T)
theorem FirstT_good (G : Gr) (Ap Al As : Option Addr) (np cp nl cl ns cs : Nat) (w : World) (B N T : Nat) (hB : B ≤ w.heap.size) (hG : GrIn w B G Ap Al As np cp nl cl ns cs) (hk : GOk G) (hN : G.names = N) (hT : G.terms = T) :
    Calls Try.prog 20 #[.agg #[.int .i64 G.terms, .int .i64 G.names, .int .i64 G.start, .slice Ap np cp, .slice Al nl cl, .slice As ns cs]] w fun e w' => ∃ D, e = .returned (.slice (some ⟨D, 0, none⟩) N N) ∧ w.heap.size ≤ D ∧ LsSt w' D N (fun k => nums (rowB (frT G N T) k)) ∧ Below w.heap.size w w' := by
  obtain ⟨hb0, hs0, gb⟩ := gbox w G Ap Al As np cp nl cl ns cs
  obtain ⟨hp1, hp2⟩ := hG.p.len
  have hl3 := hG.lm; have hl4 := hG.sm
  have hcall := ok_any G Ap Al As np cp nl cl ns cs (w.alloc (.cells #[.int .i64 G.terms, .int .i64 G.names, .int .i64 G.start, .slice Ap np cp, .slice Al nl cl, .slice As ns cs] 30)) B (Nat.le_trans hB hb0.size) (hG.below (hb0.mono hB))
  rw [okB_t hk, hs0] at hcall
  have HC := Lib.hid hcall; have HB0 := Lib.hid hb0; have HGB := Lib.hid gb; have HG := Lib.hid (hG.below (hb0.mono hB))
  have HK := Lib.hid hk; have HN := Lib.hid hN; have HT := Lib.hid hT
  unfold maxLen at hp2 hl3 hl4
  clear hcall gb hG hk hp1 hb0 hs0 hN hT
  have hs0 : (w.alloc (.cells #[.int .i64 G.terms, .int .i64 G.names, .int .i64 G.start, .slice Ap np cp, .slice Al nl cl, .slice As ns cs] 30)).heap.size = w.heap.size + 1 := by simp
  go_enter Try.func20, Try.ntmps20
  go_wp2_with fail
  generalize w.alloc (.cells #[.int .i64 G.terms, .int .i64 G.names, .int .i64 G.start, .slice Ap np cp, .slice Al nl cl, .slice As ns cs] 30) = W0 at *
  refine HC.out.mono ?_
  rintro e w1 ⟨rfl, hb1⟩
  obtain ⟨c0, c1, c2, c3, c4, c5⟩ := HGB.out.below hb1 (Nat.lt_succ_self _)
  have hs1 := hb1.size
  have hF := firsts_any G Ap Al As np cp nl cl ns cs w1 B N T (by omega) (HG.out.below (hb1.mono (by omega))) HK.out HN.out HT.out
  have HF := Lib.hid hF; have HB1 := Lib.hid hb1
  clear hF hb1
  go_wp2_with fail
  refine HF.out.mono ?_
  rintro e w2 ⟨D, ρ, rfl, hD, hρ, hM, hb2⟩
  have hNN : N ≤ 300 := by have := HK.out.n1; have := HN.out; omega
  have hTT : T ≤ 300 := by have := HK.out.t1; have := HT.out; omega
  have hLs := lists_any D N T N ρ _ w2 hNN (by omega) hM.dl hM
  have HL := Lib.hid hLs
  have hs2 := hb2.size
  have HB2 := Lib.hid hb2
  clear hLs hM hb2 hρ
  go_wp2_with fail
  refine HL.out.mono ?_
  rintro e w3 ⟨E, rfl, hE, hL, hb3⟩
  have HL3 := Lib.hid hL; have HB3 := Lib.hid (HB0.out.trans (((HB1.out.mono (by omega)).trans (HB2.out.mono (by omega))).trans (hb3.mono (by omega))))
  clear hL hb3
  go_wp2
  go_ret
  exact ⟨E, rfl, by omega, HL3.out, HB3.out⟩
end Go.Proofs.Ytgfchgnebpogjaa
