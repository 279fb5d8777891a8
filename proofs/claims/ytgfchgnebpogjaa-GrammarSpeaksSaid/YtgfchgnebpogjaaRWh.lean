/- The document's whole and table. -/
import Derived.Test.YtgfchgnebpogjaaRLv
import Derived.Test.YtgfchgnebpogjaaMtN
namespace Go.Proofs.Ytgfchgnebpogjaa
open Go.RowKit BigFrame
set_option linter.unusedVariables false
set_option linter.unusedSimpArgs false
set_option maxRecDepth 100000

set_option maxHeartbeats 2000000 in
theorem rWhole_any (G : Gr) (Ap Al As : Option Addr) (np cp nl cl ns cs : Nat) (w : World) (B N m g : Nat) (l : List Bool) (hB : B ≤ w.heap.size) (hG : GrIn w B G Ap Al As np cp nl cl ns cs) (hk : GOk G) (hN : G.names = N) (p : Prd) (hp : G.prods[m]? = some p) (hb : Blk w g 4 (bv l)) (hl : l.length = N) :
    Calls Try.prog 63 #[.agg #[.int .i64 G.terms, .int .i64 G.names, .int .i64 G.start, .slice Ap np cp, .slice Al nl cl, .slice As ns cs], .int .i64 m, .slice (some ⟨g, 0, none⟩) N N] w fun e w' => e = .returned (.bool (p.2.1.all (livS l))) ∧ Below w.heap.size w w' := by
  obtain ⟨px, r, py⟩ := p
  obtain ⟨hb0, hs0, gb⟩ := gbox w G Ap Al As np cp nl cl ns cs
  obtain ⟨hp1, hp2⟩ := hG.p.len
  have hl3 := hG.lm; have hl4 := hG.sm
  have hmn : m < np := by rw [← hp1]; exact (List.getElem?_eq_some_iff.1 hp).1
  have hn2 := hk.n1
  have hNN : N ≤ 300 := by omega
  have hf2 := (prFitg hk (mem_of_get hp) hN).2.2
  have hgl := hb.lt
  have hb1 := hb.below hb0 hgl
  have gr3 := (gb).c3
  have hGP := (hG.below (hb0.mono hB)).p
  unfold maxLen at hp2 hl3 hl4
  have HBL := Lib.hid hb1; have HF2 := Lib.hid hf2; have HL := Lib.hid hl; have HB0 := Lib.hid hb0; have HP := Lib.hid hp
  clear hb hb1 hf2 hp gb hG hk hp1 hN hl hgl hb0 hs0
  go_enter Try.func63, Try.ntmps63
  go_wp2_with fail
  generalize w.alloc (.cells #[.int .i64 G.terms, .int .i64 G.names, .int .i64 G.start, .slice Ap np cp, .slice Al nl cl, .slice As ns cs] 30) = W0 at *
  obtain ⟨b, off, rfl, hb', hc⟩ := hGP.at_ (by omega)
  obtain ⟨px', r', py', A', n', c', hq, z0, z1, z2, g1, g2, g3, g4⟩ := hc m hmn
  rw [HP.out] at hq
  simp only [Option.some.injEq, Prod.mk.injEq] at hq
  obtain ⟨rfl, rfl, rfl⟩ := hq
  unfold maxLen at g3
  have HR := Lib.hid g1; have HRd := Lib.hid g4
  clear g1 g4 hc hGP
  go_loop [7] (fun i => ∃ k : Nat, k ≤ n' ∧ i = .int .i64 k ∧ Hid ((r.take k).all (livS l) = true)) (fun i => n' - (intOf i).toNat)
  case atStart => exact ⟨0, Nat.zero_le _, rfl, Lib.hid rfl⟩
  case round =>
    as_aux_lemma =>
      obtain ⟨j, hj, rfl, HE⟩ := hrel
      by_cases hjn : j < n'
      · as_aux_lemma =>
          obtain ⟨b', off', rfl, hb', hc'⟩ := HRd.out.at_ (by rw [HR.out]; omega)
          have zs1 := hc' j (by rw [HR.out]; omega)
          have hd := all_snoc (f := livS l) (r := r) (k := j) (by rw [HR.out]; omega)
          rw [HE.out, Bool.true_and] at hd
          have hall : livS l (nth r j) = false → r.all (livS l) = false := fun h => List.all_eq_false.2 ⟨_, mem_nth (l := r) (k := j) (by rw [HR.out]; omega), by rw [h]; simp⟩
          have hmem := HF2.out _ (mem_nth (l := r) (k := j) (by rw [HR.out]; omega))
          generalize nth r j = s at zs1 hd hmem hall
          clear hc'
          by_cases hs : s < 0
          · have d1 : decide (s < 0) = true := decide_eq_true hs
            have d2 : decide (0 ≤ s) = false := decide_eq_false (by omega)
            have ht := hmem hs
            obtain ⟨t2, ht1⟩ : ∃ t2 : Nat, t2 = (-1 - s).toNat := ⟨_, rfl⟩
            rw [← ht1] at ht
            have hts : -1 - s = (t2 : Int) := by omega
            have zy := HBL.out.bcell (k := t2) (by rw [HL.out]; exact ht)
            have hfs : livS l s = bth l t2 := by unfold livS; rw [← ht1]; simp [d2]
            rw [hfs] at hd hall
            generalize bth l t2 = v at zy hd hall
            have HD := Lib.hid hd; have HA := Lib.hid hall
            clear hd hmem hfs ht1 hall
            cases v
            · go_wp2
              go_ret
              exact ⟨by rw [HA.out (by simp)]; rfl, HB0.out⟩
            · go_wp2
              go_round
              case rel => exact ⟨j + 1, by omega, by go_num, HD.out⟩
              case measure => simp [intOf]; omega
          · have d1 : decide (s < 0) = false := decide_eq_false hs
            have hfs : livS l s = true := by unfold livS; simp; omega
            rw [hfs] at hd
            have HD := Lib.hid hd
            clear hd hmem hfs hall
            go_wp2
            go_round
            case rel => exact ⟨j + 1, by omega, by go_num, HD.out⟩
            case measure => simp [intOf]; omega
      · as_aux_lemma =>
          have hq : r.all (livS l) = true := by have := HE.out; rwa [List.take_of_length_le (by rw [HR.out]; omega)] at this
          have HQ := Lib.hid hq
          clear hq
          go_wp2
          go_ret
          exact ⟨by rw [HQ.out]; rfl, HB0.out⟩
end Go.Proofs.Ytgfchgnebpogjaa
