/- The document's FirstTable. -/
import Derived.Test.YtgfchgnebpogjaaZ13
import Derived.Test.YtgfchgnebpogjaaZ14
import Derived.Test.YtgfchgnebpogjaaZ19
import Derived.Test.YtgfchgnebpogjaaZ11
import Derived.Deep.Cut
namespace Go.Proofs.Ytgfchgnebpogjaa
open Go.RowKit BigFrame
set_option linter.unusedVariables false
set_option linter.unusedSimpArgs false
set_option maxRecDepth 100000

set_option maxHeartbeats 4000000 in
theorem rFirstTable_any (G : Gr) (Ap Al As : Option Addr) (np cp nl cl ns cs : Nat) (w : World) (B N T : Nat) (hB : B ≤ w.heap.size) (hG : GrIn w B G Ap Al As np cp nl cl ns cs) (hk : GOk G) (hN : G.names = N) (hT : G.terms = T) :
    Calls Try.prog 65 #[.agg #[.int .i64 G.terms, .int .i64 G.names, .int .i64 G.start, .slice Ap np cp, .slice Al nl cl, .slice As ns cs]] w fun e w' => ∃ D c ρ, e = .returned (.slice (some ⟨D, 0, none⟩) N c) ∧ N ≤ c ∧ c ≤ maxLen ∧ w.heap.size ≤ D ∧ MtSt w' D N T ρ (rounds (stepF (rounds (stepG livS) G.prods N (b0 N)) (rounds (stepG empS) G.prods N (b0 N))) G.prods N (m0 N T)) ∧ Below w.heap.size w w' := by
  obtain ⟨hb0, hs0, gb⟩ := gbox w G Ap Al As np cp nl cl ns cs
  obtain ⟨hp1, hp2⟩ := hG.p.len
  have hl3 := hG.lm; have hl4 := hG.sm
  have hn0 := hk.n0; have hn1 := hk.n1; have ht1 := hk.t1
  have hNN : N ≤ 300 := by omega
  have hN0 : 0 < N := by omega
  have hTT : T ≤ 300 := by omega
  unfold maxLen at hp2 hl3 hl4
  have HB0 := Lib.hid hb0; have HGB := Lib.hid gb; have HG := Lib.hid (hG.below (hb0.mono hB)); have HK := Lib.hid hk; have HN := Lib.hid hN; have HT := Lib.hid hT; have HP1 := Lib.hid hp1
  have hs0 : (w.alloc (.cells #[.int .i64 G.terms, .int .i64 G.names, .int .i64 G.start, .slice Ap np cp, .slice Al nl cl, .slice As ns cs] 30)).heap.size = w.heap.size + 1 := by simp
  clear gb hG hk hp1 hb0 hN hT
  go_enter Try.func65, Try.ntmps65
  go_wp2_with fail
  generalize w.alloc (.cells #[.int .i64 G.terms, .int .i64 G.names, .int .i64 G.start, .slice Ap np cp, .slice Al nl cl, .slice As ns cs] 30) = W0 at *
  refine (rLivesT_any G Ap Al As np cp nl cl ns cs W0 B N (by omega) HG.out HK.out HN.out).mono ?_
  rintro e w1 ⟨gl, rfl, hgl, hbl, hb1⟩
  have HBL := Lib.hid hbl; have HB1 := Lib.hid hb1
  obtain ⟨c0, c1, c2, c3, c4, c5⟩ := HGB.out.below hb1 (by omega)
  have hs1 := hb1.size
  clear hbl hb1
  go_wp2_with fail
  refine (rEmptyT_any G Ap Al As np cp nl cl ns cs w1 B N (by omega) (HG.out.below (HB1.out.mono (by omega))) HK.out HN.out).mono ?_
  rintro e w2 ⟨ge, rfl, hge, hbe, hb2⟩
  have hs2 := hb2.size
  have hgl1 := HBL.out.lt
  have hb12 := HB1.out.trans (hb2.mono (by omega))
  have HBE := Lib.hid hbe; have HBL2 := Lib.hid (HBL.out.below' hb2); have HB12 := Lib.hid hb12
  obtain ⟨c0, c1, c2, c3, c4, c5⟩ := HGB.out.below hb12 (by omega)
  clear hbe hb2 hb12
  go_wp2_with fail
  rw [HN.out, HT.out]
  refine (rTable_any N T w2 hN0 hNN (by omega)).mono ?_
  rintro e w3 ⟨D, c, ρ, rfl, hc1, hc2, hD, hρ, hM, hb3⟩
  have hs3 := hb3.size
  have hge2 := HBE.out.lt
  have hb03 := HB12.out.trans (hb3.mono (by omega))
  have HBL3 := Lib.hid (HBL2.out.below' hb3); have HBE3 := Lib.hid (HBE.out.below' hb3); have HM := Lib.hid hM
  have HG3 := Lib.hid (HG.out.below (hb03.mono (by omega : B ≤ _))); have HGB3 := Lib.hid (HGB.out.below hb03 (by omega))
  have HW3 := Lib.hid (HB0.out.trans (hb03.mono (by omega)))
  have HRHO := Lib.hid hρ
  have HFIT := Lib.hid (fun p (hp : p ∈ G.prods) => prFitg HK.out hp HN.out)
  have hTp : ∀ p ∈ G.prods, ∀ s ∈ p.2.1, s < (T : Int) := fun p hp s hs => by have := ((HK.out.pr p hp).s s hs).2; have h2 := HT.out; omega
  have HTP := Lib.hid hTp; clear hTp
  clear hM hb3 hb03 c0 c1 c2 c3 c4 c5 hρ
  go_wp2_with fail
  have kp_facts : ∀ wr : World, Kp (fun j => ∃ k, k < N ∧ j = nthN ρ k) w3 wr → Below w2.heap.size w3 wr := fun wr h => h.bel (by omega) (fun j hj ⟨k, hk, e⟩ => by have := HRHO.out k hk; omega)
  have KP := Lib.hid kp_facts; clear kp_facts
  obtain ⟨LV, hLV⟩ : ∃ LV, LV = rounds (stepG livS) G.prods N (b0 N) := ⟨_, rfl⟩
  obtain ⟨EM, hEM⟩ : ∃ EM, EM = rounds (stepG empS) G.prods N (b0 N) := ⟨_, rfl⟩
  rw [← hLV] at HBL3
  rw [← hEM] at HBE3
  have hLVl : LV.length = N := by rw [hLV]; exact rounds_keep (Q := fun x : List Bool => x.length = N) (fun k p y hp hy => by rw [stepG_len]; exact hy) (by simp [b0]) N
  have hEMl : EM.length = N := by rw [hEM]; exact rounds_keep (Q := fun x : List Bool => x.length = N) (fun k p y hp hy => by rw [stepG_len]; exact hy) (by simp [b0]) N
  have HLV := Lib.hid hLV; have HEM := Lib.hid hEM
  clear hLV hEM
  go_loopw [6] (fun i wr => ∃ k : Nat, k ≤ N ∧ i = .int .i64 k ∧ Kp (fun j => ∃ k, k < N ∧ j = nthN ρ k) w3 wr ∧ ∃ z : List (List Bool), Hid (MtSt wr D N T ρ z ∧ z = rounds (stepF LV EM) G.prods k (m0 N T))) (fun i _ => N - (intOf i).toNat)
  case atStart => exact ⟨0, Nat.zero_le _, rfl, Kp.refl _ _, _, HM.out, rfl⟩
  case round =>
    as_aux_lemma =>
      obtain ⟨k, hk, rfl, hkr, z, HZ⟩ := hrel
      have gr := (HGB3.out.below ((KP.out _ hkr).mono (by omega)) (by omega)).c1
      rw [HN.out] at gr
      by_cases hlt : k < N
      · as_aux_lemma =>
          go_wp2_with fail
          go_loopw [7] (fun i wr => ∃ m : Nat, m ≤ np ∧ i = .int .i64 m ∧ Kp (fun j => ∃ k, k < N ∧ j = nthN ρ k) w3 wr ∧ ∃ y : List (List Bool), Hid (MtSt wr D N T ρ y ∧ y = (passF (stepF LV EM) 0 (G.prods.take m) z).1)) (fun i _ => np - (intOf i).toNat)
          case atStart => exact ⟨0, Nat.zero_le _, rfl, hkr, z, HZ.out.1, rfl⟩
          case round =>
            as_aux_lemma =>
              clear gr hkr
              obtain ⟨m, hm, rfl, hkr, y, HY⟩ := hrel
              have hkw := KP.out _ hkr
              obtain ⟨c0, c1, c2, gr3, c4, c5⟩ := HGB3.out.below (hkw.mono (by omega)) (by omega)
              by_cases hlt2 : m < np
              · as_aux_lemma =>
                  have hpm : G.prods[m]? = some (G.prods[m]'(by rw [HP1.out]; exact hlt2)) := List.getElem?_eq_getElem _
                  generalize G.prods[m]'(by rw [HP1.out]; exact hlt2) = p at hpm
                  obtain ⟨px, r, py⟩ := p
                  have hsz := hkr.size
                  have hglz := HBL3.out.lt
                  have hwh := rWhole_any G Ap Al As np cp nl cl ns cs wr B N m gl LV (by omega) (HG3.out.below (hkw.mono (by omega))) HK.out HN.out (px, r, py) hpm (HBL3.out.below hkw (by omega)) hLVl
                  have HWH := Lib.hid hwh; have HPM := Lib.hid hpm
                  clear hwh hpm hkw
                  go_wp2_with fail
                  refine HWH.out.mono ?_
                  rintro e w4 ⟨rfl, hb4⟩
                  have HK4 := Lib.hid (hkr.trans (Kp.of hb4))
                  have HY4 : Hid (MtSt w4 D N T ρ y) := Lib.hid (HY.out.1.below hb4)
                  have HYE : Hid (y = (passF (stepF LV EM) 0 (G.prods.take m) z).1) := Lib.hid HY.out.2
                  clear HWH hkr HY hb4 c0 c1 c2 gr3 c4 c5 hsz
                  have hkw := KP.out _ HK4.out
                  obtain ⟨c0, c1, c2, c3, c4, c5⟩ := HGB3.out.below (hkw.mono (by omega)) (by omega)
                  obtain ⟨hf0, hf1, hf2⟩ := HFIT.out _ (mem_of_get HPM.out)
                  have hfT : ∀ s ∈ r, s < (T : Int) := fun s hs => HTP.out _ (mem_of_get HPM.out) s hs
                  simp only at hf0 hf1 hf2
                  obtain ⟨t, rfl⟩ := Int.eq_ofNat_of_zero_le hf0
                  rw [Int.toNat_natCast] at hf1
                  have hGP := HG3.out.below (hkw.mono (by omega : B ≤ _))
                  obtain ⟨b, off, rfl, hb, hc⟩ := hGP.p.at_ (by omega)
                  obtain ⟨px', r', py', A', n', c', hq, z0, z1, z2, g1, g2, g3, g4⟩ := hc m hlt2
                  rw [HPM.out] at hq
                  simp only [Option.some.injEq, Prod.mk.injEq] at hq
                  obtain ⟨rfl, rfl, rfl⟩ := hq
                  have HR := Lib.hid g1; have HF2 := Lib.hid hf2; have HFT2 := Lib.hid hfT; have HRd := Lib.hid g4
                  have hps := passF_snoc (stepF LV EM) G.prods m ((t : Int), r, py) z HPM.out
                  rw [← HYE.out] at hps
                  have HPS := Lib.hid hps
                  unfold maxLen at g3
                  clear hc g1 g4 hf2 hfT hf0 hGP hps
                  simp only
                  go_upto_region 12 with (fail)
                  have hbox := Blk.new w4 50 [.int .i64 (t : Int), .slice A' n' c', .int .i64 py]
                  have HK5 := Lib.hid (HK4.out.alloc (.cells #[.int .i64 (t : Int), .slice A' n' c', .int .i64 py] 50))
                  have hM5 := HY4.out.below ((Below.refl w4.heap.size w4).alloc (Nat.le_refl _) (.cells #[.int .i64 (t : Int), .slice A' n' c', .int .i64 py] 50))
                  have hrb : ∀ k, k < N → nthN ρ k < w4.heap.size := fun k hk => (HY4.out.rows k hk).1.lt
                  have HM5 := Lib.hid hM5
                  have hsz4 := HK4.out.size
                  have hR5 := Rd.keep (w' := w4.alloc (.cells #[.int .i64 (t : Int), .slice A' n' c', .int .i64 py] 50)) HRd.out (fun p hp => World.cell?_alloc_lt _ _ _ (by omega))
                  have HR5 := Lib.hid hR5
                  obtain ⟨W5, hW5⟩ : ∃ W5, W5 = w4.alloc (.cells #[.int .i64 (t : Int), .slice A' n' c', .int .i64 py] 50) := ⟨_, rfl⟩
                  rw [← hW5] at hbox HK5 HM5 HR5 ⊢
                  clear hW5 hM5 hR5 hsz4
                  obtain ⟨gp, hgp⟩ : ∃ gp, gp = w4.heap.size := ⟨_, rfl⟩
                  rw [← hgp] at hbox hrb ⊢
                  have HBX := Lib.hid hbox
                  have HRB := Lib.hid hrb
                  have hgp1 : w3.heap.size ≤ gp := by have := HK4.out.size; omega
                  clear hgp hbox hrb HK4 HY4 z0 z1 z2 c0 c1 c2 c3 c4 c5 hkw HRd
                  go_wp2_with fail
                  go_loopw [8, 10] (fun v i wr' => ∃ k : Nat, ∃ q : Bool, ∃ Mk : List (List Bool), k ≤ n' ∧ i = .int .i64 k ∧ v = .bool q ∧ Hid (Kp (fun j => ∃ k, k < N ∧ j = nthN ρ k) w3 wr' ∧ Kp (fun j => ∃ k, k < N ∧ j = nthN ρ k) W5 wr') ∧ Hid (MtSt wr' D N T ρ Mk ∧ (stepF LV EM m ((t : Int), r, py) y).1 = if q = true then (goF EM t (r.drop k) Mk false).1 else Mk)) (fun _ i _ => n' - (intOf i).toNat)
                  case atStart => exact ⟨0, _, y, Nat.zero_le _, rfl, rfl, ⟨HK5.out, Kp.refl _ _⟩, HM5.out, by
                    unfold stepF
                    simp only [Int.toNat_natCast, List.drop_zero]
                    split <;> rfl⟩
                  case round =>
                    as_aux_lemma =>
                      clear HK5 HM5
                      obtain ⟨k, q, Mk, hk, rfl, rfl, HKK, HM⟩ := hrel
                      have hbx := (HKK.out.2.block gp HBX.out.lt (fun ⟨k, hk, e⟩ => by have := HRB.out k hk; omega)).trans HBX.out
                      have z0 := Blk.cell (w := wr) hbx (i := 0) rfl
                      have z1 := Blk.cell (w := wr) hbx (i := 1) rfl
                      have z2 := Blk.cell (w := wr) hbx (i := 2) rfl
                      have HBX2 : Hid (Blk wr gp 50 [.int .i64 (t : Int), .slice A' n' c', .int .i64 py]) := Lib.hid hbx
                      clear hbx
                      by_cases hgo : k < n' ∧ q = true
                      · obtain ⟨hkn, rfl⟩ := hgo
                        as_aux_lemma =>
                          have hri : RdI wr B A' r := Rd.keep HR5.out (fun p hp => HKK.out.2.cell (by have := HBX.out.lt; omega) (by rintro ⟨k, hk, e⟩; have := HRHO.out k hk; omega))
                          obtain ⟨b', off', rfl, hb', zr⟩ := hri.get1 (k := k) (by rw [HR.out]; exact hkn)
                          clear hri
                          have hmem := mem_nth (l := r) (k := k) (by rw [HR.out]; exact hkn)
                          have hf2 := HF2.out _ hmem
                          have hfT := HFT2.out _ hmem
                          have hdr : r.drop k = nth r k :: r.drop (k + 1) := by
                            rw [List.drop_eq_getElem_cons (by rw [HR.out]; exact hkn), ← nth_get]
                          have hst := HM.out.2
                          rw [if_pos rfl, hdr] at hst
                          have HMT : Hid (MtSt wr D N T ρ Mk) := Lib.hid HM.out.1
                          clear HM hdr hmem
                          have hkwr := KP.out _ HKK.out.1
                          obtain ⟨c0, c1, c2, c3, c4, c5⟩ := HGB3.out.below (hkwr.mono (by omega)) (by omega)
                          rw [HT.out] at c0
                          have hble := (HBE3.out.below hkwr (by have := HBE.out.lt; omega))
                          generalize nth r k = s at zr hf2 hfT hst
                          have zD := HMT.out.d t hf1
                          by_cases hs : s < 0
                          · as_aux_lemma =>
                              obtain ⟨x, hx1⟩ : ∃ x : Nat, x = (-1 - s).toNat := ⟨_, rfl⟩
                              have hx := hf2 hs
                              rw [← hx1] at hx
                              have hxs : -1 - s = (x : Int) := by omega
                              have zDx := HMT.out.d x hx
                              obtain ⟨a, ha⟩ : ∃ a, a = rowB Mk t := ⟨_, rfl⟩
                              obtain ⟨c, hc⟩ : ∃ c, c = rowB Mk x := ⟨_, rfl⟩
                              simp only [goF] at hst
                              rw [if_neg (by omega), ← hx1, ← ha, ← hc] at hst
                              have hst2 : (stepF LV EM m ((t : Int), r, py) y).1 = if bth EM x = true then (goF EM t (r.drop (k + 1)) (Mk.set t (orB a c)) false).1 else Mk.set t (orB a c) := by
                                rw [hst]
                                split
                                · exact goF_fst _ _ _ _
                                · rfl
                              have HST := Lib.hid hst2
                              have hal : a.length = T := by rw [ha]; exact (HMT.out.rows t hf1).2
                              have hcl : c.length = T := by rw [hc]; exact (HMT.out.rows x hx).2
                              have HA := Lib.hid ha; have HC := Lib.hid hc; have HX1 := Lib.hid hx1
                              have hml := HMT.out.ml
                              have HM0 : Hid (MtSt wr D N T ρ (Mk.set t (orK a c 0))) := Lib.hid (by
                                have e : orK a c 0 = rowB Mk t := by rw [HA.out]; simp [orK, orB]
                                rw [e, rowB_get (by omega), List.set_getElem_self]; exact HMT.out)
                              clear hst hst2 ha hc hx1 hf2 hfT HMT hble
                              go_wp2_with fail
                              clear c0 c1 c2 c3 c4 c5 z0 z1 z2 zr zD zDx
                              obtain ⟨wo, rfl⟩ : ∃ wo : World, wo = wr := ⟨_, rfl⟩
                              go_loopw [12] (fun i wr' => ∃ j : Nat, j ≤ T ∧ i = .int .i64 j ∧ Hid (Kp (fun j => ∃ k, k < N ∧ j = nthN ρ k) w3 wr' ∧ Kp (fun j => ∃ k, k < N ∧ j = nthN ρ k) W5 wr') ∧ Hid (MtSt wr' D N T ρ (Mk.set t (orK a c j)))) (fun i _ => T - (intOf i).toNat)
                              case atStart => exact ⟨0, Nat.zero_le _, rfl, ⟨HKK.out.1, HKK.out.2⟩, HM0.out⟩
                              case round =>
                                as_aux_lemma =>
                                  clear HBX2 HM0 HKK hkwr
                                  obtain ⟨j, hj, rfl, HKK, HM⟩ := hrel
                                  have hkwr := KP.out _ HKK.out.1
                                  have hbx := (HKK.out.2.block gp HBX.out.lt (by rintro ⟨k, hk, e⟩; have := HRB.out k hk; omega)).trans HBX.out
                                  have z0 := Blk.cell (w := wr) hbx (i := 0) rfl
                                  have z1 := Blk.cell (w := wr) hbx (i := 1) rfl
                                  have z2 := Blk.cell (w := wr) hbx (i := 2) rfl
                                  have HBX2 : Hid (Blk wr gp 50 [.int .i64 (t : Int), .slice (some ⟨b', off', none⟩) n' c', .int .i64 py]) := Lib.hid hbx
                                  clear hbx
                                  obtain ⟨c0, c1, c2, c3, c4, c5⟩ := HGB3.out.below (hkwr.mono (by omega)) (by omega)
                                  rw [HT.out] at c0
                                  by_cases hjT : j < T
                                  · as_aux_lemma =>
                                      have hstep := orK_step hal hcl hjT
                                      have zD := HM.out.d t hf1
                                      have zDx := HM.out.d x hx
                                      have hrt := HM.out.rows t hf1
                                      have hrx := HM.out.rows x hx
                                      have e1 : rowB (Mk.set t (orK a c j)) t = orK a c j := by rw [rowB_set (by omega), if_pos rfl]
                                      have e2 : bth (rowB (Mk.set t (orK a c j)) x) j = bth c j := by
                                        rw [rowB_set (by omega)]
                                        split
                                        · rename_i e; subst e; rw [orK_nth hal hcl hj hjT, if_neg (by omega), HA.out, HC.out]
                                        · rw [HC.out]
                                      rw [e1] at hrt
                                      have zt := hrt.1.bcell (k := j) (by rw [hrt.2]; exact hjT)
                                      rw [orK_nth hal hcl hj hjT, if_neg (by omega)] at zt
                                      have zx := hrx.1.bcell (k := j) (by rw [hrx.2]; exact hjT)
                                      rw [e2] at zx
                                      have ztf := hrt.1.frozen j
                                      have HSET : Hid (∀ wr', Kp (fun j => j = nthN ρ t) wr wr' → Blk wr' (nthN ρ t) 4 (bv ((orK a c j).set j (bth a j || bth c j))) → MtSt wr' D N T ρ (Mk.set t (orK a c (j + 1)))) := Lib.hid (fun wr' h1 h2 => by
                                        have h := HM.out.set_ hf1 (r := (orK a c j).set j (bth a j || bth c j)) (by rw [List.length_set]; exact hrt.2) h1 h2
                                        rw [List.set_set] at h
                                        rwa [hstep])
                                      have HRT := Lib.hid hrt.1
                                      clear hstep e1 e2 hrt hrx HM
                                      generalize bth a j = va at *
                                      generalize bth c j = vc at *
                                      cases va <;> cases vc
                                      all_goals
                                        go_wp2_with fail
                                        go_region
                                        go_wp2_with fail
                                        go_roundw
                                        case rel => exact ⟨j + 1, by omega, by go_num, ⟨(HKK.out.1.set_ (p := ⟨nthN ρ t, j, none⟩) (.inr ⟨t, hf1, rfl⟩) _).draw, (HKK.out.2.set_ (p := ⟨nthN ρ t, j, none⟩) (.inr ⟨t, hf1, rfl⟩) _).draw⟩, HSET.out _ (Kp.set_ (S := fun j => j = nthN ρ t) (p := ⟨nthN ρ t, j, none⟩) (Kp.refl _ wr) (.inr rfl) _).draw (HRT.out.bset j _).drew⟩
                                        case measure => simp [intOf]; omega
                                  · as_aux_lemma =>
                                      have hjT2 : j = T := by omega
                                      have hgez : ge < w3.heap.size := HBE3.out.lt
                                      have hble := HBE3.out.below hkwr (by omega)
                                      have ze := hble.bcell (k := x) (by rw [hEMl]; exact hx)
                                      have HM2 : Hid (MtSt wr D N T ρ (Mk.set t (orB a c)) ∧ (stepF LV EM m ((t : Int), r, py) y).1 = if bth EM x = true then (goF EM t (r.drop (k + 1)) (Mk.set t (orB a c)) false).1 else Mk.set t (orB a c)) := Lib.hid ⟨by have h := HM.out; rw [hjT2, orK_all hal hcl] at h; exact h, HST.out⟩
                                      generalize bth EM x = vx at ze HM2
                                      clear hjT2 hble HM
                                      go_wp2_with fail
                                      go_roundw
                                      case rel => exact ⟨k + 1, vx, Mk.set t (orB a c), by omega, by go_num, rfl, HKK, HM2.out.1, HM2.out.2⟩
                                      case measure => simp [intOf]; omega
                          · as_aux_lemma =>
                              obtain ⟨x, hx1⟩ : ∃ x : Nat, s = (x : Int) := ⟨s.toNat, by omega⟩
                              subst hx1
                              have hxT : x < T := by omega
                              simp only [goF] at hst
                              rw [if_pos (by omega), Int.toNat_natCast] at hst
                              obtain ⟨hrb, hrl⟩ := HMT.out.rows t hf1
                              have zx := hrb.bcell (k := x) (by rw [hrl]; exact hxT)
                              have zxf := hrb.frozen x
                              have HM2 := Lib.hid (HMT.out.set_ hf1 (r := (rowB Mk t).set x true) (by rw [List.length_set]; exact hrl) (Kp.set_ (S := fun j => j = nthN ρ t) (p := ⟨nthN ρ t, x, none⟩) (Kp.refl _ wr) (.inr rfl) (.bool true)) (hrb.bset x true))
                              have HP3 : Hid (Mk.set t ((rowB Mk t).set x true) = (passF (stepF LV EM) 0 (G.prods.take (m + 1)) z).1) := Lib.hid (by rw [HPS.out, hst])
                              generalize bth (rowB Mk t) x = vx at zx
                              clear hst hf2 hfT HMT hrb hble
                              go_wp2_with fail
                              go_roundw
                              case rel => exact ⟨m + 1, by omega, by go_num, HKK.out.1.set_ (.inr ⟨t, hf1, rfl⟩) _, _, HM2.out, HP3.out⟩
                              case measure => simp [intOf]; omega
                      · as_aux_lemma =>
                          have hM2 : Mk = (stepF LV EM m ((t : Int), r, py) y).1 := by
                            rw [HM.out.2]
                            split
                            · rename_i hqt
                              have hkn : k = n' := by
                                apply Classical.byContradiction
                                intro hne
                                exact hgo ⟨by omega, hqt⟩
                              rw [List.drop_eq_nil_of_le (by rw [HR.out]; omega)]; rfl
                            · rfl
                          have HM2 := Lib.hid hM2
                          have HP3 : Hid (Mk = (passF (stepF LV EM) 0 (G.prods.take (m + 1)) z).1) := Lib.hid (by rw [HPS.out]; exact HM2.out)
                          clear hM2
                          cases q
                          · by_cases hkn : k < n'
                            all_goals
                              go_wp2_with fail
                              go_roundw
                              case rel => exact ⟨m + 1, by omega, by go_num, HKK.out.1, Mk, HM.out.1, HP3.out⟩
                              case measure => simp [intOf]; omega
                          · have hkn : ¬ k < n' := fun h => hgo ⟨h, rfl⟩
                            go_wp2_with fail
                            go_roundw
                            case rel => exact ⟨m + 1, by omega, by go_num, HKK.out.1, Mk, HM.out.1, HP3.out⟩
                            case measure => simp [intOf]; omega
              · as_aux_lemma =>
                  have he : G.prods.take m = G.prods := List.take_of_length_le (by rw [HP1.out]; omega)
                  have HE := Lib.hid he; clear he
                  go_wp2
                  go_roundw
                  case rel => exact ⟨k + 1, by omega, by go_num, hkr, y, HY.out.1, by rw [HY.out.2, HE.out, rounds, HZ.out.2]⟩
                  case measure => simp [intOf]; omega
      · as_aux_lemma =>
          have hkN : k = N := by omega
          have HKN := Lib.hid hkN; clear hkN
          go_wp2
          go_ret
          exact ⟨D, c, ρ, rfl, hc1, hc2, by omega, by have h := HZ.out.1; rw [HZ.out.2, HKN.out, HLV.out, HEM.out] at h; exact h, HW3.out.trans ((KP.out _ hkr).mono (by omega))⟩
end Go.Proofs.Ytgfchgnebpogjaa
