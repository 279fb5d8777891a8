/- The chart of terminals. · Has: is it a sentence? Just what is derived. -/
import Derived.Test.YtklhjaohnimmnaaDoorQ29
import Derived.Test.YtklhjaohnimmnaaDoorQ21
import Derived.Deep.Cut
namespace Go.Proofs.YtklhjaohnimmnaaDoor
open Go.RowKit BigFrame
set_option linter.unusedVariables false
set_option linter.unusedSimpArgs false
set_option maxRecDepth 100000

/-- How far the chart is through: all shorter stretches, and of this length those that begin ahead of a place. -/
def Upto (ps : List Pr) (N n : Nat) (inp : List Int) (m : Ch) (size fr : Nat) : Prop := ∀ f t, f ≤ t → t ≤ n → (t - f < size ∨ (t - f = size ∧ f < fr)) → ChAll ps N inp m f t
theorem Upto.mono {ps : List Pr} {N n : Nat} {inp : List Int} {m m' : Ch} {size fr : Nat} (h : Upto ps N n inp m size fr) (hm : ∀ X f t, m X f t = true → m' X f t = true) : Upto ps N n inp m' size fr :=
  fun f t h1 h2 h3 X hX hd => hm _ _ _ (h f t h1 h2 h3 X hX hd)
theorem Cu.low {w : World} {B B' C N S : Nat} {δ γ : Nat → Nat} {ρ : Nat → Nat → Nat} {m : Ch} (h : Cu w B C N S δ γ ρ m) (hB : B' ≤ B) : Cu w B' C N S δ γ ρ m :=
  ⟨h.hS, h.hN, h.c, h.g, h.d, h.r, h.z, h.inj, Nat.le_trans hB h.lC, fun i hi => Nat.le_trans hB (h.lD i hi), fun i f hi hf => Nat.le_trans hB (h.lR i f hi hf), h.uC, h.uD, h.uR⟩
def ChartPost (ps : List Pr) (N n base : Nat) (inp : List Int) (e : Ending) (w' : World) : Prop :=
  ∃ C c δ γ ρ m, e = .returned (.slice (some ⟨C, 0, none⟩) N c) ∧ N ≤ c ∧ c ≤ maxLen ∧ Cu w' base C N (n + 1) δ γ ρ m ∧ ChOk ps N inp m ∧ ∀ f t, f ≤ t → t ≤ n → ChAll ps N inp m f t

set_option maxHeartbeats 4000000 in
theorem chart_any (G : Gr) (Ap Al As : Option Addr) (np cp nl cl ns cs : Nat) (Ai : Option Addr) (ni ci Bi : Nat) (inp : List Int) (w : World) (B N : Nat) (hB : B ≤ w.heap.size) (hG : GrIn w B G Ap Al As np cp nl cl ns cs) (hk : GOk G) (hN : G.names = N)
    (hi : RdI w Bi Ai inp) (hil : inp.length = ni) (hBi : Bi ≤ w.heap.size) (hni : ni ≤ 200) :
    Calls Tryd.prog 18 #[.agg #[.int .i64 G.terms, .int .i64 G.names, .int .i64 G.start, .slice Ap np cp, .slice Al nl cl, .slice As ns cs], .slice Ai ni ci] w fun e w' => ChartPost G.prods N ni w.heap.size inp e w' ∧ Below w.heap.size w w' := by
  obtain ⟨hb0, hs0, gb⟩ := gbox w G Ap Al As np cp nl cl ns cs
  obtain ⟨hp1, hp2⟩ := hG.p.len
  have hl3 := hG.lm; have hl4 := hG.sm
  have hn0 := hk.n0; have hn1 := hk.n1
  have hNN : N ≤ 300 := by omega
  have hN0 : 0 < N := by omega
  unfold maxLen at hp2 hl3 hl4
  have HB0 := Lib.hid hb0; have HGB := Lib.hid gb; have HG := Lib.hid (hG.below (hb0.mono hB)); have HK := Lib.hid hk; have HN := Lib.hid hN; have HP1 := Lib.hid hp1
  have HI := Lib.hid (hi.below (hb0.mono hBi)); have HIL := Lib.hid hil
  have HFT := Lib.hid (show Fits N G.prods from fun p hp => (prFitg hk hp hN).2)
  have HFIT := Lib.hid (fun p (hp : p ∈ G.prods) => prFitg hk hp hN)
  have hs0 : (w.alloc (.cells #[.int .i64 G.terms, .int .i64 G.names, .int .i64 G.start, .slice Ap np cp, .slice Al nl cl, .slice As ns cs] 25)).heap.size = w.heap.size + 1 := by simp
  clear gb hG hk hp1 hb0 hN hi hil
  go_enter Tryd.func18, Tryd.ntmps18
  go_wp2_with fail
  generalize w.alloc (.cells #[.int .i64 G.terms, .int .i64 G.names, .int .i64 G.start, .slice Ap np cp, .slice Al nl cl, .slice As ns cs] 25) = W0 at *
  have key : ∀ wr, Below (w.heap.size + 1) W0 wr → GrBox wr w.heap.size G Ap Al As np cp nl cl ns cs ∧ GrIn wr B G Ap Al As np cp nl cl ns cs ∧ RdI wr Bi Ai inp ∧ w.heap.size + 1 ≤ wr.heap.size := fun wr h => ⟨HGB.out.below h (by omega), HG.out.below (h.mono (by omega)), HI.out.below (h.mono (by omega)), by have := h.size; omega⟩
  have KEY := Lib.hid key; clear key
  go_loopw [5, 7] (fun v i wr => ∃ k : Nat, k ≤ N ∧ i = .int .i64 k ∧ Hid (Below (w.heap.size + 1) W0 wr) ∧ ∃ δ γ ρ, Hid (Tb wr (w.heap.size + 1) (ni + 1) k v δ γ ρ)) (fun _ i _ => N - (intOf i).toNat)
  case atStart => exact ⟨0, Nat.zero_le _, rfl, Below.refl _ _, fun _ => 0, fun _ => 0, fun _ _ => 0, World.ownsRow_nil _ _ _ _, fun i h => absurd h (by omega), fun i f h => absurd h (by omega), fun i f t h => absurd h (by omega), fun i f t h => absurd h (by omega), fun i f j g h => absurd h (by omega), fun i h => absurd h (by omega), fun i f h => absurd h (by omega), fun i h => absurd h (by omega), fun i f h => absurd h (by omega), fun i h => absurd h (by omega), fun i f h => absurd h (by omega)⟩
  case round =>
    as_aux_lemma =>
      obtain ⟨k, hkN, rfl, HW, δ, γ, ρ, HT⟩ := hrel
      obtain ⟨⟨c0, c1, c2, c3, c4, c5⟩, _, _, hz⟩ := KEY.out wr HW.out
      rw [HN.out] at c1
      by_cases hlt : k < N
      · as_aux_lemma =>
          have HC := Lib.hid (rTable_any (ni + 1) (ni + 1) wr (by omega) (by omega) (by omega))
          have hcast : (((ni + 1 : Nat)) : Int) = (ni : Int) + 1 := by omega
          rw [hcast] at HC
          clear hcast
          go_wp2_with fail
          refine HC.out.mono ?_
          rintro e w1 ⟨D, c, ρl, rfl, hc1, hc2, hD, hρ, hM, hb1⟩
          have HB1 := Lib.hid hb1; have HM := Lib.hid hM; have HR := Lib.hid hρ
          have hs1 := hb1.size
          have hown := HT.out.own
          have hown1 := own_ext hown hb1
          have HO := Lib.hid hown1
          have hc3 := hc2
          unfold maxLen at hc3
          clear hb1 hM hρ hown hown1 HC c0 c1 c2 c3 c4 c5
          go_wp2_with (at_builtin; refine wpList_app elCh rfl (.tmp 28) (.tmp 30) rfl (w.heap.size + 1) _ k 1 _ [.slice (some ⟨D, 0, none⟩) (ni + 1) c] rfl HO.out rfl rfl (by simp [Value.oneCell']) (by omega) (by omega) (by omega) ?_; intro v1 w2 hown2 hg2 hat2; have HG2 := Lib.hid hg2; have HO2 := Lib.hid hown2; have HA2 := Lib.hid hat2; clear hown2 hg2 hat2)
          go_roundw
          case rel => exact ⟨k + 1, by omega, by go_num, HW.out.trans (((HB1.out.mono hz).trans ⟨HG2.out.os, HG2.out.tape, HG2.out.output, HG2.out.size, fun j hj => HG2.out.block j (by omega) (fun e => by have := (HO.out.lt j e.symm).1; omega)⟩)), _, _, _, HT.out.next (by omega) hz HB1.out HM.out hD HR.out hc1 hc2 HO2.out HG2.out HA2.out⟩
          case measure => simp [intOf]; omega
      · as_aux_lemma =>
          obtain rfl : N = k := by omega
          obtain ⟨C, c, rfl, hc1, hc2, hcu⟩ := HT.out.cu (by omega) hN0
          have HCU := Lib.hid hcu
          clear hcu HT
          go_wp2_with fail
          clear c0 c1 c2 c3 c4 c5 hlt hkN
          have hc3 := hc2
          unfold maxLen at hc3
          obtain ⟨wo, rfl⟩ : ∃ wo : World, wo = wr := ⟨_, rfl⟩
          go_loopw [9] (fun v wr' => ∃ size : Nat, size ≤ ni + 1 ∧ v = .int .i64 size ∧ Hid (Below (w.heap.size + 1) W0 wr') ∧ ∃ m, Hid (Cu wr' (w.heap.size + 1) C N (ni + 1) δ γ ρ m ∧ ChOk G.prods N inp m ∧ Upto G.prods N ni inp m size 0)) (fun v _ => ni + 1 - (intOf v).toNat)
          case atStart => exact ⟨0, Nat.zero_le _, rfl, HW.out, _, HCU.out, (fun X f t h1 h2 h3 h4 => by cases h4), fun f t h1 h2 h3 => absurd h3 (by omega)⟩
          case round =>
            as_aux_lemma =>
              clear HW HCU hz
              obtain ⟨size, hsz, rfl, HW, m, HM⟩ := hrel
              by_cases hlt1 : size ≤ ni
              · as_aux_lemma =>
                  go_wp2_with fail
                  obtain ⟨wo2, rfl⟩ : ∃ wo2 : World, wo2 = wr := ⟨_, rfl⟩
                  go_loopw [10] (fun v wr' => ∃ fr : Nat, fr + size ≤ ni + 1 ∧ v = .int .i64 fr ∧ Hid (Below (w.heap.size + 1) W0 wr') ∧ ∃ m, Hid (Cu wr' (w.heap.size + 1) C N (ni + 1) δ γ ρ m ∧ ChOk G.prods N inp m ∧ Upto G.prods N ni inp m size fr)) (fun v _ => ni + 1 - (intOf v).toNat)
                  case atStart => exact ⟨0, by omega, rfl, HW.out, m, HM.out⟩
                  case round =>
                    as_aux_lemma =>
                      clear HW HM
                      obtain ⟨fr, hfr, rfl, HW, m, HM⟩ := hrel
                      by_cases hlt2 : fr + size ≤ ni
                      · as_aux_lemma =>
                          have hlt2' : (fr : Int) + size ≤ ni := by omega
                          go_wp2_with fail
                          obtain ⟨wo3, rfl⟩ : ∃ wo3 : World, wo3 = wr := ⟨_, rfl⟩
                          go_loopg [11] (muC N m fr (fr + size) + 1) (fun gk ag wr' => ∃ b : Bool, ∃ m1 : Ch, ag = .bool b ∧ gk = (if b then muC N m1 fr (fr + size) + 1 else 0) ∧ Hid (Below (w.heap.size + 1) W0 wr') ∧ Hid (Cu wr' (w.heap.size + 1) C N (ni + 1) δ γ ρ m1 ∧ ChOk G.prods N inp m1 ∧ Upto G.prods N ni inp m1 size fr) ∧ Hid (b = false → ∀ p ∈ G.prods, Rch m1 inp p.2.1 fr (fr + size) → m1 p.1.toNat fr (fr + size) = true))
                          case atStart => exact ⟨true, m, rfl, rfl, HW.out, HM.out, fun h => by cases h⟩
                          case round =>
                            as_aux_lemma =>
                              clear HW HM
                              obtain ⟨b, m1, rfl, hgk, HW, HM, HF⟩ := hrel
                              have HGK := Lib.hid hgk; clear hgk
                              cases b
                              · as_aux_lemma =>
                                  go_wp2_with fail
                                  go_roundw
                                  case rel => exact ⟨fr + 1, by omega, by go_num, HW.out, m1, HM.out.1, HM.out.2.1, fun f t h1 h2 h3 => by
                                    by_cases e : t - f = size ∧ f = fr
                                    · obtain ⟨e1, rfl⟩ := e
                                      obtain rfl : t = f + size := by omega
                                      exact ch_settled HFT.out (by omega) (by rw [HIL.out]; exact hlt2) (fun f' t' a1 a2 a3 a4 => HM.out.2.2 f' t' a2 (by omega) (by omega)) (HF.out rfl)
                                    · exact HM.out.2.2 f t h1 h2 (by omega)⟩
                                  case measure => simp [intOf]; omega
                              · as_aux_lemma =>
                                  go_wp2_with fail
                                  obtain ⟨wo4, rfl⟩ : ∃ wo4 : World, wo4 = wr := ⟨_, rfl⟩
                                  go_loopw [11, 12] (fun ag i wr' => ∃ k : Nat, ∃ q : Bool, ∃ m2 : Ch, k ≤ np ∧ i = .int .i64 k ∧ ag = .bool q ∧ Hid (Below (w.heap.size + 1) W0 wr') ∧ Hid (Cu wr' (w.heap.size + 1) C N (ni + 1) δ γ ρ m2 ∧ ChOk G.prods N inp m2 ∧ Upto G.prods N ni inp m2 size fr) ∧ Hid ((q = false → m2 = m1 ∧ ∀ j p, j < k → G.prods[j]? = some p → Rch m1 inp p.2.1 fr (fr + size) → m1 p.1.toNat fr (fr + size) = true) ∧ (q = true → muC N m2 fr (fr + size) < muC N m1 fr (fr + size)))) (fun _ i _ => np - (intOf i).toNat)
                                  case atStart => exact ⟨0, false, m1, Nat.zero_le _, rfl, rfl, HW.out, HM.out, fun _ => ⟨rfl, fun j p h => absurd h (by omega)⟩, fun h => by cases h⟩
                                  case round =>
                                    as_aux_lemma =>
                                      clear HW HM HF
                                      obtain ⟨k, q, m2, hk, rfl, rfl, HW, HM, HQ⟩ := hrel
                                      obtain ⟨⟨c0, c1, c2, gr3, c4, c5⟩, hg1, hi1, hz1⟩ := KEY.out wr HW.out
                                      by_cases hlt3 : k < np
                                      · as_aux_lemma =>
                                          obtain ⟨b', off', rfl, hb', hc'⟩ := hg1.p.at_ (by omega)
                                          obtain ⟨px, r, py, A', n', c', hq, z0, z1, z2, g1, g2, g3, g4⟩ := hc' k hlt3
                                          obtain ⟨hf0, hf1, hf2⟩ := HFIT.out _ (mem_of_get hq)
                                          simp only at hf0 hf1 hf2
                                          obtain ⟨X, rfl⟩ := Int.eq_ofNat_of_zero_le hf0
                                          rw [Int.toNat_natCast] at hf1
                                          have y1 := HM.out.1.c X hf1
                                          obtain ⟨y2, y3⟩ := HM.out.1.g X hf1
                                          have y4 := HM.out.1.d X fr hf1 (by omega)
                                          have y5 := HM.out.1.r X fr (fr + size) hf1 (by omega) (by omega)
                                          have y6 := HM.out.1.z X fr (fr + size) hf1 (by omega) (by omega)
                                          have hlt2' : (fr : Int) + size ≤ ni := by omega
                                          have HPQ := Lib.hid hq; have HF2 := Lib.hid hf2; have HR := Lib.hid g1; have HRd := Lib.hid g4
                                          have HGI := Lib.hid hg1; have HII := Lib.hid hi1
                                          clear hc' hq hf2 g1 g4 hg1 hi1 hf0
                                          unfold maxLen at g3 y3
                                          cases hv : m2 X fr (fr + size)
                                          · as_aux_lemma =>
                                              rw [hv] at y5
                                              have HV := Lib.hid hv
                                              clear hv
                                              go_wp2_with fail
                                              clear c0 c1 c2 gr3 c4 c5 y1 y2 y3 y4 y5 y6 z0 z2
                                              obtain ⟨cc, hcc⟩ := boolOf (Rch m2 inp r fr (fr + size))
                                              have hcast : ((fr + size : Nat) : Int) = (fr : Int) + size := by omega
                                              have hK : ∀ Y : WB wr.heap.size wr, GrBox Y.val w.heap.size G (some ⟨b', off', none⟩) Al As np cp nl cl ns cs ∧ Y.val.cell? ⟨b', off' + k * 3 + 1, none⟩ = some (.slice A' n' c') ∧
                                                  Calls Tryd.prog 35 #[.agg #[.int .i64 G.terms, .int .i64 G.names, .int .i64 G.start, .slice (some ⟨b', off', none⟩) np cp, .slice Al nl cl, .slice As ns cs], .slice (some ⟨C, 0, none⟩) N c, .slice Ai ni ci, .slice A' n' c', .int .i64 (fr : Int), .int .i64 ((fr : Int) + size)] Y.val (fun e w' => e = .returned (.bool cc) ∧ Below Y.val.heap.size Y.val w') := by
                                                intro Y
                                                have hy := HW.out.trans (Y.bel.mono hz1)
                                                obtain ⟨q1, q2, q3, q4⟩ := KEY.out Y.val hy
                                                have hsY := Y.bel.size
                                                refine ⟨q1, (Y.bel.cell (p := ⟨b', off' + k * 3 + 1, none⟩) (by show b' < _; omega)).trans z1, ?_⟩
                                                rw [← hcast]
                                                exact stands_any G (some ⟨b', off', none⟩) Al As np cp nl cl ns cs (w.heap.size + 1) C N (ni + 1) c δ γ ρ m2 Ai ni ci Bi inp A' n' c' B r fr (fr + size) Y.val (HM.out.1.below Y.bel) hc1 hc2 q3 HIL.out (by omega) (by omega) (HRd.out.below (Y.bel.mono (by omega))) HR.out (by omega) (by unfold maxLen; omega) rfl HF2.out (by omega) (by omega) (by omega) cc hcc
                                              have K := Lib.hid hK
                                              have HCC := Lib.hid hcc
                                              clear hK hcc hcast z1
                                              refine wp_region_cls (B := wr.heap.size) (w0 := wr) (by kernel_rfl) (by kernel_rfl) (Below.refl _ _) ?_
                                              have z0 := fun Y => (K.out Y).1.c0
                                              have z1 := fun Y => (K.out Y).1.c1
                                              have z2 := fun Y => (K.out Y).1.c2
                                              have z3 := fun Y => (K.out Y).1.c3
                                              have z4 := fun Y => (K.out Y).1.c4
                                              have z5 := fun Y => (K.out Y).1.c5
                                              have z6 := fun Y => (K.out Y).2.1
                                              repeat (first | go_big_quiet_skip | (go_big_quiet_want; go_big_quiet_op; go_big_quiet_on))
                                              go_big_quiet_want
                                              go_big_quiet_op
                                              refine ⟨.bool cc, fun Y => Y.call (Nat.le_refl _) (K.out Y).2.2, ?_⟩
                                              go_big_quiet_on
                                              repeat (first | go_big_quiet_skip | (go_big_quiet_want; go_big_quiet_op; go_big_quiet_on))
                                              refine wpQuiet_nil ?_
                                              intro Y
                                              have hW5 := HW.out.trans (Y.bel.mono hz1)
                                              have hC5 := HM.out.1.below Y.bel
                                              have HW5 := Lib.hid hW5; have HC5 := Lib.hid hC5
                                              clear z0 z1 z2 z3 z4 z5 z6 K hW5 hC5 HII HGI
                                              generalize Y.val = w5 at *
                                              clear Y
                                              cases cc
                                              · as_aux_lemma =>
                                                  have HQ2 : Hid ((q = false → m2 = m1 ∧ ∀ j p, j < k + 1 → G.prods[j]? = some p → Rch m1 inp p.2.1 fr (fr + size) → m1 p.1.toNat fr (fr + size) = true) ∧ (q = true → muC N m2 fr (fr + size) < muC N m1 fr (fr + size))) := Lib.hid ⟨fun h => ⟨(HQ.out.1 h).1, fun j p hj hp hr => by
                                                    by_cases e : j = k
                                                    · subst e
                                                      rw [HPQ.out] at hp
                                                      obtain rfl := Option.some.inj hp
                                                      rw [← (HQ.out.1 h).1] at hr
                                                      have := HCC.out.2 hr
                                                      simp at this
                                                    · exact (HQ.out.1 h).2 j p (by omega) hp hr⟩, HQ.out.2⟩
                                                  go_wp2_with fail
                                                  go_roundw
                                                  case rel => exact ⟨k + 1, q, m2, by omega, by go_num, rfl, HW5.out, ⟨HC5.out, HM.out.2⟩, HQ2.out⟩
                                                  case measure => simp [intOf]; omega
                                              · as_aux_lemma =>
                                                  have y1 := HC5.out.c X hf1
                                                  obtain ⟨y2, y3⟩ := HC5.out.g X hf1
                                                  have y4 := HC5.out.d X fr hf1 (by omega)
                                                  have y5 := HC5.out.r X fr (fr + size) hf1 (by omega) (by omega)
                                                  have y6 := HC5.out.z X fr (fr + size) hf1 (by omega) (by omega)
                                                  rw [HV.out] at y5
                                                  have HC6 := Lib.hid (HC5.out.set_ (X := X) (f := fr) (t := fr + size) hf1 (by omega) (by omega))
                                                  have HW6 : Hid (Below (w.heap.size + 1) W0 (w5.setCell ⟨ρ X fr, fr + size, none⟩ (.bool true))) := Lib.hid (HW5.out.setCell (HC5.out.lR X fr hf1 (by omega)) _)
                                                  have HQ2 : Hid (muC N (upd m2 X fr (fr + size)) fr (fr + size) < muC N m1 fr (fr + size)) := Lib.hid (by
                                                    have h1 := muC_upd (N := N) hf1 HV.out
                                                    cases hq : q
                                                    · rw [(HQ.out.1 hq).1] at h1 ⊢; exact h1
                                                    · exact Nat.lt_trans h1 (HQ.out.2 hq))
                                                  have HOK : Hid (ChOk G.prods N inp (upd m2 X fr (fr + size))) := Lib.hid (by
                                                    have := HM.out.2.1.upd (p := ((X : Int), r, py)) (mem_of_get HPQ.out) HFT.out (f := fr) (t := fr + size) (by have := HIL.out; omega) (HCC.out.1 rfl)
                                                    simpa using this)
                                                  have HUP : Hid (Upto G.prods N ni inp (upd m2 X fr (fr + size)) size fr) := Lib.hid (HM.out.2.2.mono (fun Y a b h => upd_mono h))
                                                  unfold maxLen at y3
                                                  go_wp2_with fail
                                                  go_roundw
                                                  case rel => exact ⟨k + 1, true, upd m2 X fr (fr + size), by omega, by go_num, rfl, HW6.out, ⟨HC6.out, HOK.out, HUP.out⟩, (fun h => by cases h), fun _ => HQ2.out⟩
                                                  case measure => simp [intOf]; omega
                                          · as_aux_lemma =>
                                              rw [hv] at y5
                                              have HQ2 : Hid ((q = false → m2 = m1 ∧ ∀ j p, j < k + 1 → G.prods[j]? = some p → Rch m1 inp p.2.1 fr (fr + size) → m1 p.1.toNat fr (fr + size) = true) ∧ (q = true → muC N m2 fr (fr + size) < muC N m1 fr (fr + size))) := Lib.hid ⟨fun h => ⟨(HQ.out.1 h).1, fun j p hj hp hr => by
                                                by_cases e : j = k
                                                · subst e
                                                  rw [HPQ.out] at hp
                                                  obtain rfl := Option.some.inj hp
                                                  rw [← (HQ.out.1 h).1]
                                                  simpa using hv
                                                · exact (HQ.out.1 h).2 j p (by omega) hp hr⟩, HQ.out.2⟩
                                              clear hv
                                              go_wp2_with fail
                                              go_roundw
                                              case rel => exact ⟨k + 1, q, m2, by omega, by go_num, rfl, HW.out, HM.out, HQ2.out⟩
                                              case measure => simp [intOf]; omega
                                      · as_aux_lemma =>
                                          have hkn : k = np := by omega
                                          have hall : q = false → ∀ p ∈ G.prods, Rch m1 inp p.2.1 fr (fr + size) → m1 p.1.toNat fr (fr + size) = true := fun h p hp => by
                                            obtain ⟨j, hj, ej⟩ := List.getElem_of_mem hp
                                            exact (HQ.out.1 h).2 j p (by have := HP1.out; omega) (by rw [List.getElem?_eq_getElem hj, ej])
                                          have HALL := Lib.hid hall
                                          clear hall hkn hg1 hi1
                                          cases q
                                          · go_wp2_with fail
                                            go_roundg 0
                                            case measure => rw [HGK.out]; simp
                                            case rel => exact ⟨false, m2, rfl, rfl, HW.out, HM.out, fun _ => by rw [(HQ.out.1 (by simp)).1]; exact HALL.out (by simp)⟩
                                          · go_wp2_with fail
                                            go_roundg (muC N m2 fr (fr + size) + 1)
                                            case measure => rw [HGK.out]; have h := HQ.out.2 (by simp); simp; exact h
                                            case rel => exact ⟨true, m2, rfl, rfl, HW.out, HM.out, fun h => by cases h⟩
                      · as_aux_lemma =>
                          have hlt2' : ¬ ((fr : Int) + size ≤ ni) := by omega
                          go_wp2_with fail
                          go_roundw
                          case rel => exact ⟨size + 1, by omega, by go_num, HW.out, m, HM.out.1, HM.out.2.1, fun f t h1 h2 h3 => HM.out.2.2 f t h1 h2 (by omega)⟩
                          case measure => simp [intOf]; omega
              · as_aux_lemma =>
                  go_wp2_with fail
                  go_ret
                  exact ⟨⟨C, c, δ, γ, ρ, m, rfl, hc1, hc2, HM.out.1.low (by omega), HM.out.2.1, fun f t h1 h2 => HM.out.2.2 f t h1 h2 (by omega)⟩, HB0.out.trans (HW.out.mono (by omega))⟩
end Go.Proofs.YtklhjaohnimmnaaDoor
namespace Go.Proofs.YtklhjaohnimmnaaDoor
open Go.RowKit BigFrame
set_option linter.unusedVariables false
set_option linter.unusedSimpArgs false
set_option maxRecDepth 100000

set_option maxHeartbeats 1000000 in
theorem has_any (G : Gr) (Ap Al As : Option Addr) (np cp nl cl ns cs : Nat) (Ai : Option Addr) (ni ci Bi : Nat) (inp : List Int) (w : World) (B N : Nat) (hB : B ≤ w.heap.size) (hG : GrIn w B G Ap Al As np cp nl cl ns cs) (hk : GOk G) (hN : G.names = N)
    (hi : RdI w Bi Ai inp) (hil : inp.length = ni) (hBi : Bi ≤ w.heap.size) (hni : ni ≤ 200) (b : Bool) (hb : b = true ↔ Der G.prods G.start.toNat inp) :
    Calls Tryd.prog 9 #[.agg #[.int .i64 G.terms, .int .i64 G.names, .int .i64 G.start, .slice Ap np cp, .slice Al nl cl, .slice As ns cs], .slice Ai ni ci] w fun e w' => e = .returned (.bool b) ∧ Below w.heap.size w w' := by
  obtain ⟨hb0, hs0, gb⟩ := gbox w G Ap Al As np cp nl cl ns cs
  obtain ⟨hp1, hp2⟩ := hG.p.len
  have hl3 := hG.lm; have hl4 := hG.sm
  have hst0 := hk.s0; have hst1 := hk.s1
  have hcall := chart_any G Ap Al As np cp nl cl ns cs Ai ni ci Bi inp (w.alloc (.cells #[.int .i64 G.terms, .int .i64 G.names, .int .i64 G.start, .slice Ap np cp, .slice Al nl cl, .slice As ns cs] 25)) B N (by have := hb0.size; omega) (hG.below (hb0.mono hB)) hk hN (hi.below (hb0.mono hBi)) hil (by have := hb0.size; omega) hni
  have HC := Lib.hid hcall
  have hs0 : (w.alloc (.cells #[.int .i64 G.terms, .int .i64 G.names, .int .i64 G.start, .slice Ap np cp, .slice Al nl cl, .slice As ns cs] 25)).heap.size = w.heap.size + 1 := by simp
  have HB0 := Lib.hid hb0; have HGB := Lib.hid gb; have HN := Lib.hid hN; have HB := Lib.hid hb; have HIL := Lib.hid hil
  obtain ⟨X, hX⟩ := Int.eq_ofNat_of_zero_le hst0
  have hXN : X < N := by omega
  have HX := Lib.hid hX
  unfold maxLen at hp2 hl3 hl4
  clear gb hG hk hp1 hb0 hN hi hil hcall hb hX
  go_enter Tryd.func9, Tryd.ntmps9
  go_wp2_with fail
  generalize w.alloc (.cells #[.int .i64 G.terms, .int .i64 G.names, .int .i64 G.start, .slice Ap np cp, .slice Al nl cl, .slice As ns cs] 25) = W0 at *
  refine HC.out.mono ?_
  rintro e w1 ⟨⟨C, c, δ, γ, ρ, m, rfl, hc1, hc2, hcu, hok, hall⟩, hb1⟩
  obtain ⟨c0, c1, c2, c3, c4, c5⟩ := HGB.out.below hb1 (by omega)
  rw [HX.out] at c2
  have y1 := hcu.c X hXN
  obtain ⟨y2, y3⟩ := hcu.g X hXN
  have y4 := hcu.d X 0 hXN (by omega)
  have y5 := hcu.r X 0 ni hXN (by omega) (by omega)
  have hres : m X 0 ni = b := Bool.eq_iff_iff.2 ⟨fun h => HB.out.2 (by
    have := hok X 0 ni hXN (by omega) (by have := HIL.out; omega) h
    rw [← HIL.out, sub_all] at this
    rw [HX.out]; simpa using this), fun h => hall 0 ni (by omega) (Nat.le_refl _) X hXN (by
    rw [← HIL.out, sub_all]
    have := HB.out.1 h
    rw [HX.out] at this; simpa using this)⟩
  rw [hres] at y5
  have HF := Lib.hid (HB0.out.trans (hb1.mono (by omega)))
  unfold maxLen at hc2 y3
  clear hres hcu hok hall hb1
  go_wp2_with fail
  go_ret
  exact ⟨rfl, HF.out⟩
end Go.Proofs.YtklhjaohnimmnaaDoor
