/- The document's Follow. -/
import Derived.Test.YtgfchgnebpogjaaZ21
import Derived.Test.YtgfchgnebpogjaaZ14
namespace Go.Proofs.Ytgfchgnebpogjaa
open Go.RowKit BigFrame
set_option linter.unusedVariables false
set_option linter.unusedSimpArgs false
set_option maxRecDepth 100000

theorem frT_rect {G : Gr} {N T : Nat} (hk : GOk G) (hN : G.names = N) (hT : G.terms = T) : Rect N T (frT G N T) :=
  rounds_keep (Q := Rect N T) (fun k p y hp hy => (stepF_all (fitF hk (mem_of_get hp) hN hT).2.2 hy).1) (m0_rect N T) N

set_option maxHeartbeats 4000000 in
theorem rFollow_any (G : Gr) (Ap Al As : Option Addr) (np cp nl cl ns cs : Nat) (w : World) (B N T : Nat) (hB : B ≤ w.heap.size) (hG : GrIn w B G Ap Al As np cp nl cl ns cs) (hk : GOk G) (hN : G.names = N) (hT : G.terms = T) :
    Calls Try.prog 33 #[.agg #[.int .i64 G.terms, .int .i64 G.names, .int .i64 G.start, .slice Ap np cp, .slice Al nl cl, .slice As ns cs]] w fun e w' => ∃ D c M u, e = .returned (.slice (some ⟨D, 0, none⟩) N c) ∧ w.heap.size ≤ D ∧ N ≤ c ∧ c ≤ maxLen ∧ UsOk G.prods (rounds (stepG livS) G.prods N (b0 N)) G.start.toNat u ∧
      FolOk (rounds (stepG empS) G.prods N (b0 N)) (frT G N T) G.prods u N G.start.toNat T (bth (rounds (stepG livS) G.prods N (b0 N)) G.start.toNat) M ∧ LsR w' w'.heap.size D N (fun k => nums (rowB M k)) ∧ Below w.heap.size w w' := by
  obtain ⟨LV, hLV⟩ : ∃ LV, LV = rounds (stepG livS) G.prods N (b0 N) := ⟨_, rfl⟩
  obtain ⟨EM, hEM⟩ : ∃ EM, EM = rounds (stepG empS) G.prods N (b0 N) := ⟨_, rfl⟩
  obtain ⟨FT, hFT⟩ : ∃ FT, FT = frT G N T := ⟨_, rfl⟩
  rw [← hLV, ← hEM, ← hFT]
  have hLVl : LV.length = N := by rw [hLV]; exact growN_len N
  have hEMl : EM.length = N := by rw [hEM]; exact growN_len N
  have hFR : Rect N T FT := by rw [hFT]; exact frT_rect hk hN hT
  have HLV := Lib.hid hLV; have HEM := Lib.hid hEM; have HFT := Lib.hid hFT; have HFR := Lib.hid hFR
  clear hLV hEM hFT hFR
  obtain ⟨hb0, hs0, gb⟩ := gbox w G Ap Al As np cp nl cl ns cs
  obtain ⟨hp1, hp2⟩ := hG.p.len
  have hl3 := hG.lm; have hl4 := hG.sm
  have hn0 := hk.n0; have hn1 := hk.n1; have ht1 := hk.t1; have hp4 := hk.p
  have hNN : N ≤ 300 := by omega
  have hTT : T ≤ 300 := by omega
  have hnp : np ≤ 400 := by omega
  have hN0 : 0 < N := by omega
  have hst0 := hk.s0; have hst1 := hk.s1
  obtain ⟨X, hX⟩ := Int.eq_ofNat_of_zero_le hst0
  have hXN : X < N := by omega
  rw [show G.start.toNat = X by omega]
  have HX := Lib.hid hX
  obtain ⟨bx, hbx⟩ : ∃ bx, bx = bth LV X := ⟨_, rfl⟩
  rw [← hbx]
  have HBX := Lib.hid hbx; clear hbx
  unfold maxLen at hp2 hl3 hl4
  have HB0 := Lib.hid hb0; have HGB := Lib.hid gb; have HG := Lib.hid (hG.below (hb0.mono hB)); have HK := Lib.hid hk; have HN := Lib.hid hN; have HT := Lib.hid hT; have HP1 := Lib.hid hp1
  have HFIT := Lib.hid (fun p (hp : p ∈ G.prods) => fitF hk hp hN hT)
  have hs0 : (w.alloc (.cells #[.int .i64 G.terms, .int .i64 G.names, .int .i64 G.start, .slice Ap np cp, .slice Al nl cl, .slice As ns cs] 30)).heap.size = w.heap.size + 1 := by simp
  clear gb hG hk hp1 hb0 hN hT hX hst0 hst1
  go_enter Try.func33, Try.ntmps33
  go_wp2_with fail
  generalize w.alloc (.cells #[.int .i64 G.terms, .int .i64 G.names, .int .i64 G.start, .slice Ap np cp, .slice Al nl cl, .slice As ns cs] 30) = W0 at *
  refine (rUsed_any G Ap Al As np cp nl cl ns cs W0 B N (by omega) HG.out HK.out HN.out).mono ?_
  rintro e w1 ⟨gu, u, rfl, hgu, hbu, hus, hb1⟩
  rw [show G.start.toNat = X by have := HX.out; omega, ← HLV.out] at hus
  have HBU := Lib.hid hbu; have HUS := Lib.hid hus; have HB1 := Lib.hid hb1
  obtain ⟨c0, c1, c2, c3, c4, c5⟩ := HGB.out.below hb1 (by omega)
  have hs1 := hb1.size
  clear hbu hb1 hus
  go_wp2_with fail
  refine (rEmptyT_any G Ap Al As np cp nl cl ns cs w1 B N (by omega) (HG.out.below (HB1.out.mono (by omega))) HK.out HN.out).mono ?_
  rintro e w2 ⟨ge, rfl, hge, hbe, hb2⟩
  rw [← HEM.out] at hbe
  have hs2 := hb2.size
  have hgu1 := HBU.out.lt
  have hb12 := HB1.out.trans (hb2.mono (by omega))
  have HBE := Lib.hid hbe; have HBU2 := Lib.hid (HBU.out.below' hb2); have HB12 := Lib.hid hb12
  obtain ⟨c0, c1, c2, c3, c4, c5⟩ := HGB.out.below hb12 (by omega)
  clear hbe hb2 hb12
  go_wp2_with fail
  refine (rFirstTable_any G Ap Al As np cp nl cl ns cs w2 B N T (by omega) (HG.out.below (HB12.out.mono (by omega))) HK.out HN.out HT.out).mono ?_
  rintro e w3 ⟨DF, cF, ρF, rfl, hcF, hcF2, hDF, hMF, hb3⟩
  have hMF2 : MtSt w3 DF N T ρF FT := by rw [HFT.out]; exact hMF
  have hs3 := hb3.size
  have hge2 := HBE.out.lt
  have hb13 := HB12.out.trans (hb3.mono (by omega))
  have HBE3 := Lib.hid (HBE.out.below' hb3); have HBU3 := Lib.hid (HBU2.out.below' hb3); have HB13 := Lib.hid hb13; have HMF := Lib.hid hMF2
  obtain ⟨c0, c1, c2, c3, c4, c5⟩ := HGB.out.below hb13 (by omega)
  clear hMF hMF2 hb3 hb13
  go_wp2_with fail
  refine (rLivesT_any G Ap Al As np cp nl cl ns cs w3 B N (by omega) (HG.out.below (HB13.out.mono (by omega))) HK.out HN.out).mono ?_
  rintro e w4 ⟨gl, rfl, hgl, hbl, hb4⟩
  rw [← HLV.out] at hbl
  have hs4 := hb4.size
  have hb14 := HB13.out.trans (hb4.mono (by omega))
  have HBL := Lib.hid hbl; have HBE4 := Lib.hid (HBE3.out.below' hb4); have HBU4 := Lib.hid (HBU3.out.below' hb4); have HMF4 := Lib.hid (HMF.out.below hb4); have HB14 := Lib.hid hb14
  obtain ⟨c0, c1, c2, c3, c4, c5⟩ := HGB.out.below hb14 (by omega)
  rw [HN.out] at c1
  rw [HT.out] at c0
  clear hbl hb4 hb14
  go_wp2_with fail
  refine (rTable_any N (T + 1) w4 hN0 hNN (by omega)).mono ?_
  rintro e w5 ⟨D, c, ρ, rfl, hc1, hc2, hD, hρ, hM, hb5⟩
  have hs5 := hb5.size
  have hb15 := HB14.out.trans (hb5.mono (by omega))
  have HBL5 := Lib.hid (HBL.out.below' hb5); have HBE5 := Lib.hid (HBE4.out.below' hb5); have HBU5 := Lib.hid (HBU4.out.below' hb5); have HMF5 := Lib.hid (HMF4.out.below hb5); have HB15 := Lib.hid hb15
  have hgul := HBU4.out.lt; have hgel := HBE4.out.lt; have hgll := HBL.out.lt; have hdfl := HMF4.out.dl
  have hrfl : ∀ j, j < N → nthN ρF j < w4.heap.size := fun j hj => (HMF4.out.rows j hj).1.lt
  have HRF := Lib.hid hrfl
  obtain ⟨c0, c1, c2, c3, c4, c5⟩ := HGB.out.below hb15 (by omega)
  rw [HN.out] at c1
  rw [HT.out] at c0
  rw [HX.out] at c2
  have zl := HBL5.out.bcell (k := X) (by rw [hLVl]; exact hXN)
  have zD := hM.d X hXN
  have hrow := hM.rows X hXN
  have em0 : rowB (m0 N (T + 1)) X = zT T := row_rep hXN
  rw [em0] at hrow
  have zx := hrow.1.bcell (k := T) (by rw [hrow.2]; omega)
  have zxf := hrow.1.frozen T
  have hM1 : ∀ wr', Kp (fun j => ∃ k, k < N ∧ j = nthN ρ k) w5 wr' → Kp (fun j => j = nthN ρ X) w5 wr' → Blk wr' (nthN ρ X) 4 (bv ((zT T).set T (bth LV X))) → MtSt wr' D N (T + 1) ρ (fol0 N X T (bth LV X)) := fun wr' _ h1 h2 => hM.set_ hXN (r := (zT T).set T (bth LV X)) (by rw [List.length_set]; exact hrow.2) h1 h2
  have HM1 := Lib.hid hM1; have HRW := Lib.hid hrow.1; have HRHO := Lib.hid hρ
  rw [← HBX.out] at zl HM1
  generalize bth (zT T) T = v0 at zx
  clear hM hb15 hρ hM1 hrow em0 hb5 hrfl
  go_wp2_with fail
  go_region
  have HM2 := Lib.hid (HM1.out _ ((Kp.set_ (S := fun j => ∃ k, k < N ∧ j = nthN ρ k) (p := ⟨nthN ρ X, T, none⟩) (Kp.refl _ w5) (.inr ⟨X, hXN, rfl⟩) (.bool bx)).draw) ((Kp.set_ (S := fun j => j = nthN ρ X) (p := ⟨nthN ρ X, T, none⟩) (Kp.refl _ w5) (.inr rfl) (.bool bx)).draw) (HRW.out.bset T bx).drew)
  have hKS := (Kp.set_ (S := fun j => ∃ k, k < N ∧ j = nthN ρ k) (p := ⟨nthN ρ X, T, none⟩) (Kp.refl _ w5) (.inr ⟨X, hXN, rfl⟩) (.bool bx)).draw
  have HKS := Lib.hid hKS
  obtain ⟨W6, hW6⟩ : ∃ W6, W6 = (w5.setCell ⟨nthN ρ X, T, none⟩ (.bool bx)).drew := ⟨_, rfl⟩
  rw [← hW6] at HM2 HKS ⊢
  clear hW6 hKS HM1 zl zD zx zxf c0 c1 c2 c3 c4 c5
  have hw5 := HKS.out.size
  have hbase : ∀ j, j < w4.heap.size → ¬ ∃ k, k < N ∧ j = nthN ρ k := by rintro j hj ⟨k, hk, e⟩; have := HRHO.out k hk; omega
  have hkey : ∀ wr, Kp (fun j => ∃ k, k < N ∧ j = nthN ρ k) w5 wr → GrBox wr w.heap.size G Ap Al As np cp nl cl ns cs ∧ GrIn wr B G Ap Al As np cp nl cl ns cs ∧ Blk wr gu 4 (bv u) ∧ Blk wr ge 4 (bv EM) ∧ MtSt wr DF N T ρF FT ∧ w5.heap.size ≤ wr.heap.size ∧ Below (w.heap.size + 1) W0 wr := fun wr h => by
    have hz := h.size
    have hb := h.bel (B := w4.heap.size) (by omega) hbase
    refine ⟨HGB.out.below (HB15.out.trans (hb.mono (by omega))) (by omega), HG.out.below ((HB15.out.trans (hb.mono (by omega))).mono (by omega)), HBU5.out.below hb (by omega), HBE5.out.below hb (by omega), HMF5.out.keep h (hbase _ hdfl) (fun k hk => hbase _ (HRF.out k hk)), hz, ?_⟩
    exact (HB15.out.trans (hb.mono (by omega))).mono (by omega)
  have HKEY := Lib.hid hkey; have HBASE := Lib.hid hbase
  clear hkey hbase
  have hul : u.length = np := by rw [HUS.out.1, HP1.out]
  go_wp2_with fail
  go_loopw [8] (fun i wr => ∃ k : Nat, k ≤ N + 1 ∧ i = .int .i64 k ∧ Hid (Kp (fun j => ∃ k, k < N ∧ j = nthN ρ k) w5 wr) ∧ ∃ z : List (List Bool), Hid (MtSt wr D N (T + 1) ρ z ∧ z = rounds (stepA EM u FT T) G.prods k (fol0 N X T bx))) (fun i _ => N + 1 - (intOf i).toNat)
  case atStart => exact ⟨0, Nat.zero_le _, rfl, HKS.out, _, HM2.out, rfl⟩
  case round =>
    as_aux_lemma =>
      clear HM2 HKS
      obtain ⟨k, hk, rfl, HK1, z, HZ⟩ := hrel
      obtain ⟨⟨c0, c1, c2, c3, c4, c5⟩, k1, k2, k3, k4, k5, k6⟩ := HKEY.out wr HK1.out
      rw [HN.out] at c1
      clear k1 k2 k3 k4 k6
      by_cases hlt : k ≤ N
      · as_aux_lemma =>
          go_wp2_with fail
          clear c0 c1 c2 c3 c4 c5
          go_loopw [9] (fun i wr => ∃ m : Nat, m ≤ np ∧ i = .int .i64 m ∧ Hid (Kp (fun j => ∃ k, k < N ∧ j = nthN ρ k) w5 wr) ∧ ∃ y : List (List Bool), Hid (MtSt wr D N (T + 1) ρ y ∧ y = (passF (stepA EM u FT T) 0 (G.prods.take m) z).1)) (fun i _ => np - (intOf i).toNat)
          case atStart => exact ⟨0, Nat.zero_le _, rfl, HK1.out, z, HZ.out.1, rfl⟩
          case round =>
            as_aux_lemma =>
              clear HK1 k5
              obtain ⟨m, hm, rfl, HK2, y, HY⟩ := hrel
              obtain ⟨⟨c0, c1, c2, c3, c4, c5⟩, k1, k2, k3, k4, k5, k6⟩ := HKEY.out wr HK2.out
              by_cases hlt2 : m < np
              · as_aux_lemma =>
                  obtain ⟨b, off, rfl, hb, hc⟩ := k1.p.at_ (by omega)
                  obtain ⟨px, r, py, A', n', c', hq, z0, z1, z2, g1, g2, g3, g4⟩ := hc m hlt2
                  obtain ⟨hf0, hf1, hf2, hf3⟩ := HFIT.out _ (mem_of_get hq)
                  simp only at hf0 hf1 hf2 hf3
                  obtain ⟨t, rfl⟩ := Int.eq_ofNat_of_zero_le hf0
                  simp only [Int.toNat_natCast] at hf2
                  have HPM := Lib.hid hq; have HR := Lib.hid g1; have HFS : Hid (FitS N T r) := Lib.hid hf3; have HRd := Lib.hid g4
                  have hps := passF_snoc (stepA EM u FT T) G.prods m ((t : Int), r, py) z hq
                  rw [← HY.out.2] at hps
                  have HPS := Lib.hid hps
                  have hn20 : n' ≤ 20 := by rw [← g1]; exact hf1
                  unfold maxLen at g3
                  have HY1 := Lib.hid HY.out.1
                  clear hc hq g1 g4 hps hf0 k1 k2 k3 k4 HY
                  go_upto_region 14 with (fail)
                  have hbox := Blk.new wr 50 [.int .i64 (t : Int), .slice A' n' c', .int .i64 py]
                  obtain ⟨Wb, hWb⟩ : ∃ Wb, Wb = wr.alloc (.cells #[.int .i64 (t : Int), .slice A' n' c', .int .i64 py] 50) := ⟨_, rfl⟩
                  have hbox' : Blk Wb wr.heap.size 50 [.int .i64 (t : Int), .slice A' n' c', .int .i64 py] := by rw [hWb]; exact hbox
                  have hbl : Below wr.heap.size wr Wb := by rw [hWb]; exact (Below.refl _ _).alloc (Nat.le_refl _) _
                  have HMY := Lib.hid (HY1.out.below hbl)
                  have HK3 := Lib.hid (HK2.out.trans (Kp.of hbl))
                  have HR5 : Hid (RdI Wb B A' r) := Lib.hid (Rd.keep HRd.out (fun p hp => hbl.cell (by omega)))
                  have hrb : ∀ k, k < N → nthN ρ k < wr.heap.size := fun k hk => (HY1.out.rows k hk).1.lt
                  rw [← hWb]
                  obtain ⟨gp, hgp⟩ : ∃ gp, gp = wr.heap.size := ⟨_, rfl⟩
                  rw [← hgp] at hbox' hrb ⊢
                  have HBX2 := Lib.hid hbox'; have HRB := Lib.hid hrb
                  have hgp1 : w5.heap.size ≤ gp := by omega
                  clear hbox hbox' hWb hbl hgp hrb HK2 HY1 HRd z0 z1 z2 c0 c1 c2 c3 c4 c5 k5 k6
                  go_wp2_with fail
                  obtain ⟨wo, rfl⟩ : ∃ wo : World, wo = wr := ⟨_, rfl⟩
                  go_loopw [11] (fun i wr' => ∃ j : Nat, j ≤ n' ∧ i = .int .i64 j ∧ Hid (Kp (fun j => ∃ k, k < N ∧ j = nthN ρ k) w5 wr' ∧ Kp (fun j => ∃ k, k < N ∧ j = nthN ρ k) Wb wr') ∧ ∃ Mk : List (List Bool), Hid (MtSt wr' D N (T + 1) ρ Mk ∧ (stepA EM u FT T m ((t : Int), r, py) y).1 = if bth u m = true then goA EM FT T t (r.drop j) Mk else Mk)) (fun i _ => n' - (intOf i).toNat)
                  case atStart => exact ⟨0, Nat.zero_le _, rfl, ⟨HK3.out, Kp.refl _ _⟩, y, HMY.out, by unfold stepA; simp only [Int.toNat_natCast, List.drop_zero]⟩
                  case round =>
                    as_aux_lemma =>
                      clear HK3 HMY
                      obtain ⟨j, hj, rfl, HKK, Mk, HM⟩ := hrel
                      obtain ⟨⟨c0, c1, c2, c3, c4, c5⟩, k1, k2, k3, k4, k5, k6⟩ := HKEY.out wr HKK.out.1
                      have hbx := (HKK.out.2.block gp HBX2.out.lt (by rintro ⟨k, hk, e⟩; have := HRB.out k hk; omega)).trans HBX2.out
                      have z0 := Blk.cell (w := wr) hbx (i := 0) rfl
                      have z1 := Blk.cell (w := wr) hbx (i := 1) rfl
                      have z2 := Blk.cell (w := wr) hbx (i := 2) rfl
                      have zu := k2.bcell (k := m) (by rw [hul]; exact hlt2)
                      clear hbx
                      by_cases hjn : j < n'
                      · cases huv : bth u m
                        · as_aux_lemma =>
                            have HP3 : Hid (Mk = (passF (stepA EM u FT T) 0 (G.prods.take (m + 1)) z).1) := Lib.hid (by rw [HPS.out, HM.out.2, huv]; rfl)
                            rw [huv] at zu
                            clear huv k1 k2 k3 k4 k6
                            go_wp2_with fail
                            go_roundw
                            case rel => exact ⟨m + 1, by omega, by go_num, HKK.out.1, Mk, HM.out.1, HP3.out⟩
                            case measure => simp [intOf]; omega
                        · as_aux_lemma =>
                            have hri : RdI wr B A' r := Rd.keep HR5.out (fun p hp => HKK.out.2.cell (by have := HBX2.out.lt; omega) (HBASE.out _ (by omega)))
                            have HRI := Lib.hid hri
                            obtain ⟨b', off', rfl, hb', zr⟩ := hri.get1 (k := j) (by rw [HR.out]; exact hjn)
                            have hff := nth_fit (N := N) (T := T) HFS.out (k := j) (by rw [HR.out]; exact hjn)
                            have hdr : r.drop j = nth r j :: r.drop (j + 1) := by rw [List.drop_eq_getElem_cons (by rw [HR.out]; exact hjn), ← nth_get]
                            have hst := HM.out.2
                            rw [if_pos huv, hdr, goA] at hst
                            rw [huv] at zu
                            by_cases h0 : nth r j < 0
                            · as_aux_lemma =>
                                rw [if_neg (by omega)] at hst
                                have hnN := hff.1 h0
                                have HFO := Lib.hid (rfollow_any G (some ⟨b, off, none⟩) Al As np cp nl cl ns cs wr B N T t (-1 - nth r j).toNat j n' c' ge DF D cF c r py (some ⟨b', off', none⟩) EM FT Mk ρF ρ (by omega) HT.out hTT hNN HRI.out HR.out hn20 hjn h0 rfl hnN hf2 HFS.out k3 hEMl k4 HM.out.1 hcF hc1
                                  (by have := HRHO.out _ hnN; omega) (by have := HRHO.out _ hnN; omega) (by have := HRHO.out _ hnN; omega) (fun i hi => by have h1 := HRHO.out _ hnN; have h2 := HRF.out i hi; omega))
                                rw [HT.out] at HFO c0
                                have HST := Lib.hid hst
                                generalize hsv : nth r j = s at *
                                have HNN := Lib.hid hnN
                                clear hst hdr hff hri k1 k2 k3 k4 k6 HM hsv hnN
                                go_wp2_with fail
                                refine HFO.out.mono ?_
                                rintro e w9 ⟨rfl, hM9, hK9⟩
                                have HM9 := Lib.hid hM9
                                have HK9 := Lib.hid (Kp.mono (S' := fun j => ∃ k, k < N ∧ j = nthN ρ k) hK9 (fun k _ e => ⟨_, HNN.out, e⟩))
                                clear hM9 hK9 HFO
                                go_wp2_with fail
                                go_roundw
                                case rel => exact ⟨j + 1, by omega, by go_num, ⟨HKK.out.1.trans HK9.out, HKK.out.2.trans HK9.out⟩, _, HM9.out, HST.out⟩
                                case measure => simp [intOf]; omega
                            · as_aux_lemma =>
                                rw [if_pos (by omega)] at hst
                                have HST : Hid ((stepA EM u FT T m ((t : Int), r, py) y).1 = if bth u m = true then goA EM FT T t (r.drop (j + 1)) Mk else Mk) := Lib.hid (by rw [hst, if_pos huv])
                                have ds : decide (nth r j < 0) = false := decide_eq_false h0
                                generalize nth r j = s at *
                                clear hst hdr hff hri k1 k2 k3 k4 k6
                                go_wp2_with fail
                                go_roundw
                                case rel => exact ⟨j + 1, by omega, by go_num, HKK, Mk, HM.out.1, by rw [HST.out, if_pos huv]⟩
                                case measure => simp [intOf]; omega
                      · as_aux_lemma =>
                          have hjn2 : r.drop j = [] := List.drop_eq_nil_of_le (by rw [HR.out]; omega)
                          have HP3 : Hid (Mk = (passF (stepA EM u FT T) 0 (G.prods.take (m + 1)) z).1) := Lib.hid (by
                            rw [HPS.out, HM.out.2, hjn2]
                            split <;> rfl)
                          generalize bth u m = vu at zu
                          clear hjn2 k1 k2 k3 k4 k6
                          go_wp2_with fail
                          go_roundw
                          case rel => exact ⟨m + 1, by omega, by go_num, HKK.out.1, Mk, HM.out.1, HP3.out⟩
                          case measure => simp [intOf]; omega
              · as_aux_lemma =>
                  have he : G.prods.take m = G.prods := List.take_of_length_le (by rw [HP1.out]; omega)
                  have HE := Lib.hid he; clear he k1 k2 k3 k4 k6
                  go_wp2
                  go_roundw
                  case rel => exact ⟨k + 1, by omega, by go_num, HK2.out, y, HY.out.1, by rw [HY.out.2, HE.out, rounds, HZ.out.2]⟩
                  case measure => simp [intOf]; omega
      · as_aux_lemma =>
          have hkN : k = N + 1 := by omega
          have HZZ : Hid (MtSt wr D N (T + 1) ρ z ∧ FolOk EM FT G.prods u N X T bx z) := Lib.hid ⟨HZ.out.1, by rw [HZ.out.2, hkN]; exact stepA_done HFR.out (fun p hp => (HFIT.out p hp).2.2) hXN⟩
          have HNUM := Lib.hid (rNums_any D N (T + 1) c ρ z wr hN0 hNN (by omega) HZ.out.1 hc1)
          have HBF := Lib.hid (HKEY.out wr HK1.out).2.2.2.2.2.2
          clear hkN
          go_wp2_with fail
          refine HNUM.out.mono ?_
          rintro e w9 ⟨E, cE, rfl, hE, hcE, hcm, hLs, hb9⟩
          have HLS := Lib.hid hLs; have HB9 := Lib.hid (HB0.out.trans ((HBF.out.mono (by omega)).trans (hb9.mono (by omega))))
          clear hLs hb9 HNUM
          go_wp2
          go_ret
          exact ⟨E, cE, z, u, rfl, by omega, hcE, hcm, HUS.out, HZZ.out.2, HLS.out, HB9.out⟩
end Go.Proofs.Ytgfchgnebpogjaa
