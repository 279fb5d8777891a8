/- Has: is it a sentence? Just what is derived. -/
import Derived.Test.YtgfchgnebpogjaaHsD
namespace Go.Proofs.Ytgfchgnebpogjaa
open Go.RowKit BigFrame
set_option linter.unusedVariables false
set_option linter.unusedSimpArgs false
set_option maxRecDepth 100000

set_option maxHeartbeats 1000000 in
theorem has_any (G : Gr) (Ap Al As : Option Addr) (np cp nl cl ns cs : Nat) (Ai : Option Addr) (ni ci Bi : Nat) (inp : List Int) (w : World) (B N : Nat) (hB : B ≤ w.heap.size) (hG : GrIn w B G Ap Al As np cp nl cl ns cs) (hk : GOk G) (hN : G.names = N)
    (hi : RdI w Bi Ai inp) (hil : inp.length = ni) (hBi : Bi ≤ w.heap.size) (hni : ni ≤ 200) (b : Bool) (hb : b = true ↔ Der G.prods G.start.toNat inp) :
    Calls Try.prog 21 #[.agg #[.int .i64 G.terms, .int .i64 G.names, .int .i64 G.start, .slice Ap np cp, .slice Al nl cl, .slice As ns cs], .slice Ai ni ci] w fun e w' => e = .returned (.bool b) ∧ Below w.heap.size w w' := by
  obtain ⟨hb0, hs0, gb⟩ := gbox w G Ap Al As np cp nl cl ns cs
  obtain ⟨hp1, hp2⟩ := hG.p.len
  have hl3 := hG.lm; have hl4 := hG.sm
  have hst0 := hk.s0; have hst1 := hk.s1
  have hcall := chart_any G Ap Al As np cp nl cl ns cs Ai ni ci Bi inp (w.alloc (.cells #[.int .i64 G.terms, .int .i64 G.names, .int .i64 G.start, .slice Ap np cp, .slice Al nl cl, .slice As ns cs] 30)) B N (by have := hb0.size; omega) (hG.below (hb0.mono hB)) hk hN (hi.below (hb0.mono hBi)) hil (by have := hb0.size; omega) hni
  have HC := Lib.hid hcall
  have hs0 : (w.alloc (.cells #[.int .i64 G.terms, .int .i64 G.names, .int .i64 G.start, .slice Ap np cp, .slice Al nl cl, .slice As ns cs] 30)).heap.size = w.heap.size + 1 := by simp
  have HB0 := Lib.hid hb0; have HGB := Lib.hid gb; have HN := Lib.hid hN; have HB := Lib.hid hb; have HIL := Lib.hid hil
  obtain ⟨X, hX⟩ := Int.eq_ofNat_of_zero_le hst0
  have hXN : X < N := by omega
  have HX := Lib.hid hX
  unfold maxLen at hp2 hl3 hl4
  clear gb hG hk hp1 hb0 hN hi hil hcall hb hX
  go_enter Try.func21, Try.ntmps21
  go_wp2_with fail
  generalize w.alloc (.cells #[.int .i64 G.terms, .int .i64 G.names, .int .i64 G.start, .slice Ap np cp, .slice Al nl cl, .slice As ns cs] 30) = W0 at *
  refine HC.out.mono ?_
  rintro e w1 ⟨⟨C, c, δ, γ, ρ, m, rfl, hc1, hc2, hcu, hok, hall⟩, hb1⟩
  obtain ⟨c0, c1, c2, c3, c4, c5⟩ := HGB.out.below hb1 (by omega)
  rw [HX.out] at c2
  have y1 := hcu.c X hXN
  obtain ⟨y2, y3⟩ := hcu.g X hXN
  have y4 := hcu.d X 0 hXN (by omega)
  have y5 := hcu.r X 0 ni hXN (by omega) (by omega)
  have hres : m X 0 ni = b := Bool.eq_iff_iff.2 ⟨fun h => HB.out.2 (by
    have := hok X 0 ni hXN (by omega) (by have := HIL.out; omega) h
    rw [← HIL.out, sub_all] at this
    rw [HX.out]; simpa using this), fun h => hall 0 ni (by omega) (Nat.le_refl _) X hXN (by
    rw [← HIL.out, sub_all]
    have := HB.out.1 h
    rw [HX.out] at this; simpa using this)⟩
  rw [hres] at y5
  have HF := Lib.hid (HB0.out.trans (hb1.mono (by omega)))
  unfold maxLen at hc2 y3
  clear hres hcu hok hall hb1
  go_wp2_with fail
  go_ret
  exact ⟨rfl, HF.out⟩
end Go.Proofs.Ytgfchgnebpogjaa
