/- The document's First. -/
import Derived.Test.YtgfchgnebpogjaaZ20
namespace Go.Proofs.Ytgfchgnebpogjaa
open Go.RowKit BigFrame
set_option linter.unusedVariables false
set_option linter.unusedSimpArgs false
set_option maxRecDepth 100000

theorem rFirst_any (G : Gr) (Ap Al As : Option Addr) (np cp nl cl ns cs : Nat) (w : World) (B N T : Nat) (hB : B ≤ w.heap.size) (hG : GrIn w B G Ap Al As np cp nl cl ns cs) (hk : GOk G) (hN : G.names = N) (hT : G.terms = T) :
    Calls Try.prog 32 #[.agg #[.int .i64 G.terms, .int .i64 G.names, .int .i64 G.start, .slice Ap np cp, .slice Al nl cl, .slice As ns cs]] w fun e w' => ∃ D c, e = .returned (.slice (some ⟨D, 0, none⟩) N c) ∧ w.heap.size ≤ D ∧ N ≤ c ∧ c ≤ maxLen ∧ LsR w' w'.heap.size D N (fun k => nums (rowB (frT G N T) k)) ∧ Below w.heap.size w w' := by
  obtain ⟨hb0, hs0, gb⟩ := gbox w G Ap Al As np cp nl cl ns cs
  obtain ⟨hp1, hp2⟩ := hG.p.len
  have hl3 := hG.lm; have hl4 := hG.sm
  have hn0 := hk.n0; have hn1 := hk.n1; have ht1 := hk.t1
  have hNN : N ≤ 300 := by omega
  have hN0 : 0 < N := by omega
  have hTT : T ≤ 301 := by omega
  unfold maxLen at hp2 hl3 hl4
  have HB0 := Lib.hid hb0
  have HC := Lib.hid (rFirstTable_any G Ap Al As np cp nl cl ns cs (w.alloc (.cells #[.int .i64 G.terms, .int .i64 G.names, .int .i64 G.start, .slice Ap np cp, .slice Al nl cl, .slice As ns cs] 30)) B N T (Nat.le_trans hB hb0.size) (hG.below (hb0.mono hB)) hk hN hT)
  clear gb hG hk hp1 hb0 hs0 hN hT
  have hs0 : (w.alloc (.cells #[.int .i64 G.terms, .int .i64 G.names, .int .i64 G.start, .slice Ap np cp, .slice Al nl cl, .slice As ns cs] 30)).heap.size = w.heap.size + 1 := by simp
  go_enter Try.func32, Try.ntmps32
  go_wp2_with fail
  generalize w.alloc (.cells #[.int .i64 G.terms, .int .i64 G.names, .int .i64 G.start, .slice Ap np cp, .slice Al nl cl, .slice As ns cs] 30) = W0 at *
  refine HC.out.mono ?_
  rintro e w1 ⟨D, c, ρ, rfl, hc1, hc2, hD, hM, hb1⟩
  have HL := Lib.hid (rNums_any D N T c ρ _ w1 hN0 hNN hTT hM hc1)
  have HB1 := Lib.hid hb1
  have hs1 := hb1.size
  clear hM hb1
  go_wp2_with fail
  refine HL.out.mono ?_
  rintro e w2 ⟨E, cE, rfl, hE, hcE, hcm, hL, hb2⟩
  have HL2 := Lib.hid hL; have HB2 := Lib.hid (HB0.out.trans ((HB1.out.mono (by omega)).trans (hb2.mono (by omega))))
  clear hL hb2 HL
  go_wp2
  go_ret
  exact ⟨E, cE, rfl, by omega, hcE, hcm, HL2.out, HB2.out⟩
end Go.Proofs.Ytgfchgnebpogjaa
