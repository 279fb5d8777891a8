/- The document's Loops. -/
import Derived.Test.YtgfchgnebpogjaaZ13
import Derived.Test.YtgfchgnebpogjaaZ14
import Derived.Test.YtgfchgnebpogjaaZ11
import Derived.Test.YtgfchgnebpogjaaZ16
import Derived.Deep.Cut
namespace Go.Proofs.Ytgfchgnebpogjaa
open Go.RowKit BigFrame
set_option linter.unusedVariables false
set_option linter.unusedSimpArgs false
set_option maxRecDepth 100000

set_option maxHeartbeats 4000000 in
theorem rLoops_any (G : Gr) (Ap Al As : Option Addr) (np cp nl cl ns cs : Nat) (w : World) (B N : Nat) (hB : B ≤ w.heap.size) (hG : GrIn w B G Ap Al As np cp nl cl ns cs) (hk : GOk G) (hN : G.names = N) :
    Calls Try.prog 30 #[.agg #[.int .i64 G.terms, .int .i64 G.names, .int .i64 G.start, .slice Ap np cp, .slice Al nl cl, .slice As ns cs]] w fun e w' => ∃ g l, e = .returned (.slice (some ⟨g, 0, none⟩) N N) ∧ w.heap.size ≤ g ∧ Blk w' g 4 (bv l) ∧ l.length = N ∧
      (∀ n, n < N → (bth l n = true ↔ Pth (Ed (rounds (stepG livS) G.prods N (b0 N)) (rounds (stepG empS) G.prods N (b0 N)) G.prods) n n)) ∧ Below w.heap.size w w' := by
  obtain ⟨hb0, hs0, gb⟩ := gbox w G Ap Al As np cp nl cl ns cs
  obtain ⟨hp1, hp2⟩ := hG.p.len
  have hl3 := hG.lm; have hl4 := hG.sm
  have hn0 := hk.n0; have hn1 := hk.n1
  have hNN : N ≤ 300 := by omega
  have hN0 : 0 < N := by omega
  unfold maxLen at hp2 hl3 hl4
  have HB0 := Lib.hid hb0; have HGB := Lib.hid gb; have HG := Lib.hid (hG.below (hb0.mono hB)); have HK := Lib.hid hk; have HN := Lib.hid hN; have HP1 := Lib.hid hp1
  have hs0 : (w.alloc (.cells #[.int .i64 G.terms, .int .i64 G.names, .int .i64 G.start, .slice Ap np cp, .slice Al nl cl, .slice As ns cs] 30)).heap.size = w.heap.size + 1 := by simp
  clear gb hG hk hp1 hb0 hN
  go_enter Try.func30, Try.ntmps30
  go_wp2_with fail
  generalize w.alloc (.cells #[.int .i64 G.terms, .int .i64 G.names, .int .i64 G.start, .slice Ap np cp, .slice Al nl cl, .slice As ns cs] 30) = W0 at *
  refine (rLivesT_any G Ap Al As np cp nl cl ns cs W0 B N (by omega) HG.out HK.out HN.out).mono ?_
  rintro e w1 ⟨gl, rfl, hgl, hbl, hb1⟩
  have HBL := Lib.hid hbl; have HB1 := Lib.hid hb1
  obtain ⟨c0, c1, c2, c3, c4, c5⟩ := HGB.out.below hb1 (by omega)
  have hs1 := hb1.size
  clear hbl hb1
  go_wp2_with fail
  refine (rEmptyT_any G Ap Al As np cp nl cl ns cs w1 B N (by omega) (HG.out.below (HB1.out.mono (by omega))) HK.out HN.out).mono ?_
  rintro e w2 ⟨ge, rfl, hge, hbe, hb2⟩
  have hs2 := hb2.size
  have hgl1 := HBL.out.lt
  have hb12 := HB1.out.trans (hb2.mono (by omega))
  have HBE := Lib.hid hbe; have HBL2 := Lib.hid (HBL.out.below' hb2); have HB12 := Lib.hid hb12
  obtain ⟨c0, c1, c2, c3, c4, c5⟩ := HGB.out.below hb12 (by omega)
  clear hbe hb2 hb12
  go_wp2_with fail
  rw [HN.out]
  refine (rTable_any N N w2 hN0 hNN (by omega)).mono ?_
  rintro e w3 ⟨D, c, ρ, rfl, hc1, hc2, hD, hρ, hM, hb3⟩
  have hs3 := hb3.size
  have hge2 := HBE.out.lt
  have hb03 := HB12.out.trans (hb3.mono (by omega))
  have HBL3 := Lib.hid (HBL2.out.below' hb3); have HBE3 := Lib.hid (HBE.out.below' hb3); have HM := Lib.hid hM
  have HG3 := Lib.hid (HG.out.below (hb03.mono (by omega : B ≤ _))); have HGB3 := Lib.hid (HGB.out.below hb03 (by omega))
  have HW3 := Lib.hid (HB0.out.trans (hb03.mono (by omega)))
  have HRHO := Lib.hid hρ
  have HFIT := Lib.hid (fun p (hp : p ∈ G.prods) => prFitg HK.out hp HN.out)
  clear hM hb3 hb03 c0 c1 c2 c3 c4 c5 hρ
  go_wp2_with fail
  have kp_facts : ∀ wr : World, Kp (fun j => ∃ k, k < N ∧ j = nthN ρ k) w3 wr → Below w2.heap.size w3 wr := fun wr h => h.bel (by omega) (fun j hj ⟨k, hk, e⟩ => by have := HRHO.out k hk; omega)
  have KP := Lib.hid kp_facts; clear kp_facts
  obtain ⟨LV, hLV⟩ : ∃ LV, LV = rounds (stepG livS) G.prods N (b0 N) := ⟨_, rfl⟩
  obtain ⟨EM, hEM⟩ : ∃ EM, EM = rounds (stepG empS) G.prods N (b0 N) := ⟨_, rfl⟩
  rw [← hLV] at HBL3
  rw [← hEM] at HBE3
  have hLVl : LV.length = N := by rw [hLV]; exact rounds_keep (Q := fun x : List Bool => x.length = N) (fun k p y hp hy => by rw [stepG_len]; exact hy) (by simp [b0]) N
  have hEMl : EM.length = N := by rw [hEM]; exact rounds_keep (Q := fun x : List Bool => x.length = N) (fun k p y hp hy => by rw [stepG_len]; exact hy) (by simp [b0]) N
  have HLV := Lib.hid hLV; have HEM := Lib.hid hEM
  clear hLV hEM
  go_loopw [6] (fun i wr => ∃ m : Nat, m ≤ np ∧ i = .int .i64 m ∧ Kp (fun j => ∃ k, k < N ∧ j = nthN ρ k) w3 wr ∧ ∃ M : List (List Bool), Hid (MtSt wr D N N ρ M ∧ EdM N (Ed LV EM (G.prods.take m)) M)) (fun i _ => np - (intOf i).toNat)
  case atStart => exact ⟨0, Nat.zero_le _, rfl, Kp.refl _ _, _, HM.out, EdM.start (fun a b => Ed.none)⟩
  case round =>
    as_aux_lemma =>
      obtain ⟨m, hm, rfl, hkr, y, HY⟩ := hrel
      have hkw := KP.out _ hkr
      obtain ⟨c0, c1, c2, gr3, c4, c5⟩ := HGB3.out.below (hkw.mono (by omega)) (by omega)
      by_cases hlt2 : m < np
      · as_aux_lemma =>
          have hpm : G.prods[m]? = some (G.prods[m]'(by rw [HP1.out]; exact hlt2)) := List.getElem?_eq_getElem _
          generalize G.prods[m]'(by rw [HP1.out]; exact hlt2) = p at hpm
          obtain ⟨px, r, py⟩ := p
          have hsz := hkr.size
          have hglz := HBL3.out.lt
          have hwh := rWhole_any G Ap Al As np cp nl cl ns cs wr B N m gl LV (by omega) (HG3.out.below (hkw.mono (by omega))) HK.out HN.out (px, r, py) hpm (HBL3.out.below hkw (by omega)) hLVl
          have HWH := Lib.hid hwh; have HPM := Lib.hid hpm
          clear hwh hpm hkw
          go_wp2_with fail
          refine HWH.out.mono ?_
          rintro e w4 ⟨rfl, hb4⟩
          have HK4 := Lib.hid (hkr.trans (Kp.of hb4))
          have HY4 : Hid (MtSt w4 D N N ρ y) := Lib.hid (HY.out.1.below hb4)
          have HYE : Hid (EdM N (Ed LV EM (G.prods.take m)) y) := Lib.hid HY.out.2
          clear HWH hkr HY hb4 c0 c1 c2 gr3 c4 c5 hsz
          have hkw := KP.out _ HK4.out
          obtain ⟨c0, c1, c2, c3, c4, c5⟩ := HGB3.out.below (hkw.mono (by omega)) (by omega)
          obtain ⟨hf0, hf1, hf2⟩ := HFIT.out _ (mem_of_get HPM.out)
          simp only at hf0 hf1 hf2
          obtain ⟨t, rfl⟩ := Int.eq_ofNat_of_zero_le hf0
          rw [Int.toNat_natCast] at hf1
          have hGP := HG3.out.below (hkw.mono (by omega : B ≤ _))
          obtain ⟨b, off, rfl, hb, hc⟩ := hGP.p.at_ (by omega)
          obtain ⟨px', r', py', A', n', c', hq, z0, z1, z2, g1, g2, g3, g4⟩ := hc m hlt2
          rw [HPM.out] at hq
          simp only [Option.some.injEq, Prod.mk.injEq] at hq
          obtain ⟨rfl, rfl, rfl⟩ := hq
          have HR := Lib.hid g1; have HF2 := Lib.hid hf2; have HRd := Lib.hid g4
          have hps := fun a b => Ed.snoc (LV := LV) (EM := EM) (a := a) (b := b) HPM.out
          have HPS := Lib.hid hps
          unfold maxLen at g3
          clear hc g1 g4 hf2 hf0 hGP hps
          obtain ⟨ok, hok⟩ : ∃ ok, ok = r.all (livS LV) := ⟨_, rfl⟩
          simp only
          rw [← hok]
          have HOK := Lib.hid hok; clear hok
          go_upto_region 9 with (fail)
          have hbox := Blk.new w4 50 [.int .i64 (t : Int), .slice A' n' c', .int .i64 py]
          have HK5 := Lib.hid (HK4.out.alloc (.cells #[.int .i64 (t : Int), .slice A' n' c', .int .i64 py] 50))
          have hM5 := HY4.out.below ((Below.refl w4.heap.size w4).alloc (Nat.le_refl _) (.cells #[.int .i64 (t : Int), .slice A' n' c', .int .i64 py] 50))
          have hrb : ∀ k, k < N → nthN ρ k < w4.heap.size := fun k hk => (HY4.out.rows k hk).1.lt
          have HM5 := Lib.hid hM5
          have hsz4 := HK4.out.size
          have hR5 := Rd.keep (w' := w4.alloc (.cells #[.int .i64 (t : Int), .slice A' n' c', .int .i64 py] 50)) HRd.out (fun p hp => World.cell?_alloc_lt _ _ _ (by omega))
          have HR5 := Lib.hid hR5
          obtain ⟨W5, hW5⟩ : ∃ W5, W5 = w4.alloc (.cells #[.int .i64 (t : Int), .slice A' n' c', .int .i64 py] 50) := ⟨_, rfl⟩
          rw [← hW5] at hbox HK5 HM5 HR5 ⊢
          clear hW5 hM5 hR5 hsz4
          obtain ⟨gp, hgp⟩ : ∃ gp, gp = w4.heap.size := ⟨_, rfl⟩
          rw [← hgp] at hbox hrb ⊢
          have HBX := Lib.hid hbox
          have HRB := Lib.hid hrb
          have hgp1 : w3.heap.size ≤ gp := by have := HK4.out.size; omega
          clear hgp hbox hrb HK4 HY4 z0 z1 z2 c0 c1 c2 c3 c4 c5 hkw HRd
          go_wp2_with fail
          go_loopw [9] (fun i wr' => ∃ k : Nat, ∃ Mk : List (List Bool), k ≤ n' ∧ i = .int .i64 k ∧ Hid (Kp (fun j => ∃ k, k < N ∧ j = nthN ρ k) w3 wr' ∧ Kp (fun j => ∃ k, k < N ∧ j = nthN ρ k) W5 wr') ∧ Hid (MtSt wr' D N N ρ Mk ∧ EdM N (fun a b => Ed LV EM (G.prods.take m) a b ∨ EdK LV EM ((t : Int), r, py) k a b) Mk)) (fun i _ => n' - (intOf i).toNat)
          case atStart => exact ⟨0, y, Nat.zero_le _, rfl, ⟨HK5.out, Kp.refl _ _⟩, HM5.out, HYE.out.congr (fun a b => ⟨.inl, fun h => h.elim id (fun q => absurd q EdK.zero)⟩)⟩
          case round =>
            as_aux_lemma =>
              clear HK5 HM5
              obtain ⟨k, Mk, hk, rfl, HKK, HM⟩ := hrel
              have hbx := (HKK.out.2.block gp HBX.out.lt (fun ⟨k, hk, e⟩ => by have := HRB.out k hk; omega)).trans HBX.out
              have z0 := Blk.cell (w := wr) hbx (i := 0) rfl
              have z1 := Blk.cell (w := wr) hbx (i := 1) rfl
              have z2 := Blk.cell (w := wr) hbx (i := 2) rfl
              have HBX2 : Hid (Blk wr gp 50 [.int .i64 (t : Int), .slice A' n' c', .int .i64 py]) := Lib.hid hbx
              clear hbx
              by_cases hgo : k < n' ∧ ok = true
              · obtain ⟨hkn, rfl⟩ := hgo
                as_aux_lemma =>
                  have hri : RdI wr B A' r := Rd.keep HR5.out (fun p hp => HKK.out.2.cell (by have := HBX.out.lt; omega) (by rintro ⟨k, hk, e⟩; have := HRHO.out k hk; omega))
                  obtain ⟨b', off', rfl, hb', zrs⟩ := hri.at_ (by rw [HR.out]; omega)
                  have HZR := Lib.hid zrs
                  have zr := zrs k (by rw [HR.out]; exact hkn)
                  clear hri zrs
                  have hmem := mem_nth (l := r) (k := k) (by rw [HR.out]; exact hkn)
                  have hs2 := HF2.out _ hmem
                  have hEs := fun a b => EdK.succ (LV := LV) (EM := EM) (p := ((t : Int), r, py)) (K := k) (a := a) (b := b) HOK.out.symm (by show k < r.length; rw [HR.out]; exact hkn)
                  have HES := Lib.hid hEs
                  have hkwr := KP.out _ HKK.out.1
                  have hble := (HBE3.out.below hkwr (by have := HBE.out.lt; omega))
                  have HBLE := Lib.hid hble
                  have hrz : restJ EM r k 0 = decide (nth r k < 0) := restJ_zero
                  have HRZ := Lib.hid hrz
                  clear hmem hEs hkwr hble hrz
                  obtain ⟨s, hs⟩ : ∃ s, s = nth r k := ⟨_, rfl⟩
                  rw [← hs] at zr
                  have HS := Lib.hid hs; clear hs
                  go_wp2_with fail
                  go_loop [10, 11] (fun v i => ∃ j : Nat, j ≤ n' ∧ i = .int .i64 j ∧ v = .bool (restJ EM r k j)) (fun _ i => n' - (intOf i).toNat)
                  case atStart => exact ⟨0, Nat.zero_le _, rfl, by rw [HRZ.out, HS.out]⟩
                  case round =>
                    as_aux_lemma =>
                      obtain ⟨j, hj, rfl, rfl⟩ := hrel
                      have hsuc := restJ_succ (EM := EM) (r := r) (k := k) (j := j)
                      have HSU := Lib.hid hsuc; clear hsuc
                      by_cases hjn : j < n'
                      · as_aux_lemma =>
                          by_cases hjk : j = k
                          · subst hjk
                            have hq : restJ EM r j (j + 1) = restJ EM r j j := by rw [HSU.out]; simp
                            have HQ := Lib.hid hq; clear hq
                            generalize restJ EM r j j = v at *
                            go_wp2_with fail
                            go_round
                            case rel => exact ⟨j + 1, by omega, by go_num, by rw [HQ.out]⟩
                            case measure => simp [intOf]; omega
                          · have d1 : decide ((j : Int) = (k : Int)) = false := decide_eq_false (by omega)
                            have d2 : ((j : Int) == (k : Int)) = false := by simp; omega
                            have d3 : ((j : Int) != (k : Int)) = true := by simp; omega
                            have hq : restJ EM r k (j + 1) = (restJ EM r k j && empS EM (nth r j)) := by rw [HSU.out, decide_eq_false hjk]; simp
                            have zj := HZR.out j (by rw [HR.out]; exact hjn)
                            have hs2 := HF2.out _ (mem_nth (l := r) (k := j) (by rw [HR.out]; exact hjn))
                            have HQ := Lib.hid hq
                            clear hq
                            generalize restJ EM r k j = v at *
                            unfold empS at HQ
                            generalize nth r j = s2 at *
                            cases v
                            · go_wp2_with fail
                              go_round
                              case rel => exact ⟨j + 1, by omega, by go_num, by rw [HQ.out]; rfl⟩
                              case measure => simp [intOf]; omega
                            · by_cases h2 : s2 < 0
                              · have e1 : decide (s2 < 0) = true := decide_eq_true h2
                                obtain ⟨x, hx1⟩ : ∃ x : Nat, x = (-1 - s2).toNat := ⟨_, rfl⟩
                                have hx := hs2 h2
                                rw [← hx1] at hx
                                have hxs : -1 - s2 = (x : Int) := by omega
                                have ze := HBLE.out.bcell (k := x) (by rw [hEMl]; exact hx)
                                rw [← hx1] at HQ
                                clear hx1 hs2
                                generalize bth EM x = vx at *
                                go_wp2_with fail
                                go_round
                                case rel => exact ⟨j + 1, by omega, by go_num, by rw [HQ.out, e1]; rfl⟩
                                case measure => simp [intOf]; omega
                              · have e1 : decide (s2 < 0) = false := decide_eq_false h2
                                clear hs2
                                go_wp2_with fail
                                go_round
                                case rel => exact ⟨j + 1, by omega, by go_num, by rw [HQ.out, e1]; rfl⟩
                                case measure => simp [intOf]; omega
                      · as_aux_lemma =>
                          have hjn2 : j = n' := by omega
                          have hall := restJ_all (EM := EM) (r := r) (k := k) (by rw [HR.out]; exact hkn)
                          rw [HR.out, ← hjn2, ← HS.out] at hall
                          have HALL := Lib.hid hall
                          clear hall hjn2
                          generalize restJ EM r k j = al at *
                          cases al
                          · as_aux_lemma =>
                              have hno : ¬ (s < 0 ∧ restB EM r k = true) := fun ⟨q1, q2⟩ => by have := HALL.out; rw [decide_eq_true q1, q2] at this; cases this
                              have HM2 : Hid (MtSt wr D N N ρ Mk ∧ EdM N (fun a b => Ed LV EM (G.prods.take m) a b ∨ EdK LV EM ((t : Int), r, py) (k + 1) a b) Mk) := Lib.hid ⟨HM.out.1, HM.out.2.congr (fun a b => by
                                rw [HES.out a b]
                                show _ ↔ _ ∨ (_ ∨ (nth r k < 0 ∧ _ ∧ _ ∧ restB EM r k = true))
                                rw [← HS.out]
                                exact ⟨fun q => q.imp id .inl, fun q => q.imp id (fun q => q.elim id (fun q => absurd ⟨q.1, q.2.2.2⟩ hno))⟩)⟩
                              clear HM hno
                              go_wp2_with fail
                              go_roundw
                              case rel => exact ⟨k + 1, Mk, by omega, by go_num, HKK, HM2.out⟩
                              case measure => simp [intOf]; omega
                          · as_aux_lemma =>
                              have hsr : s < 0 ∧ restB EM r k = true := by
                                have := HALL.out.symm
                                simpa using this
                              obtain ⟨hs0, hrb⟩ := hsr
                              obtain ⟨x, hx1⟩ : ∃ x : Nat, x = (-1 - s).toNat := ⟨_, rfl⟩
                              have hx := hs2 (by rw [← HS.out]; exact hs0)
                              rw [← HS.out, ← hx1] at hx
                              have hxs : -1 - s = (x : Int) := by omega
                              have zD := HM.out.1.d t hf1
                              obtain ⟨hrw, hrl⟩ := HM.out.1.rows t hf1
                              have zx := hrw.bcell (k := x) (by rw [hrl]; exact hx)
                              have zxf := hrw.frozen x
                              have hM2 := HM.out.1.set_ hf1 (r := (rowB Mk t).set x true) (by rw [List.length_set]; exact hrl) (Kp.set_ (S := fun j => j = nthN ρ t) (p := ⟨nthN ρ t, x, none⟩) (Kp.refl _ wr) (.inr rfl) (.bool true)).draw (hrw.bset x true).drew
                              have hE2 : EdM N (fun a b => Ed LV EM (G.prods.take m) a b ∨ EdK LV EM ((t : Int), r, py) (k + 1) a b) (Mk.set t ((rowB Mk t).set x true)) := HM.out.2.put hf1 hx (fun a b => by
                                rw [HES.out a b]
                                show _ ∨ (_ ∨ (nth r k < 0 ∧ ((t : Int)).toNat = a ∧ (-1 - nth r k).toNat = b ∧ restB EM r k = true)) ↔ _
                                rw [← HS.out, ← hx1, Int.toNat_natCast]
                                exact ⟨fun q => by
                                  rcases q with q | q | q
                                  · exact .inl (.inl q)
                                  · exact .inl (.inr q)
                                  · exact .inr ⟨q.2.1, q.2.2.1⟩, fun q => by
                                  rcases q with (q | q) | q
                                  · exact .inl q
                                  · exact .inr (.inl q)
                                  · exact .inr (.inr ⟨hs0, q.1, q.2, hrb⟩)⟩)
                              have HM2 := Lib.hid hM2; have HE2 := Lib.hid hE2
                              have HK1 := Lib.hid (((HKK.out.1.set_ (p := ⟨nthN ρ t, x, none⟩) (.inr ⟨t, hf1, rfl⟩) (.bool true))).draw)
                              have HK2 := Lib.hid (((HKK.out.2.set_ (p := ⟨nthN ρ t, x, none⟩) (.inr ⟨t, hf1, rfl⟩) (.bool true))).draw)
                              clear hM2 hE2 hx1 hs2 hrw hrl hrb HM HKK
                              generalize bth (rowB Mk t) x = vx at zx
                              go_wp2_with fail
                              refine wp_region_still_tail 12 (by kernel_rfl) (by kernel_rfl) ?_
                              simp only [List.take_succ_cons, List.take_zero, List.drop_succ_cons, List.drop_zero]
                              change wpStill _ _ wr.drew (fun a' => wpList _ _ _ _ a' wr.drew) _ _
                              obtain ⟨w5, hw5⟩ : ∃ w5, w5 = wr.drew := ⟨_, rfl⟩
                              have hcl : ∀ p, w5.cell? p = wr.cell? p := by intro p; rw [hw5]; rfl
                              have hcf : ∀ p, w5.frozen? p = wr.frozen? p := by intro p; rw [hw5]; rfl
                              have y0 := (hcl _).trans z0
                              have y1 := (hcl _).trans z1
                              have y2 := (hcl _).trans zr
                              have y3 := (hcl _).trans zD
                              have y4 := (hcl _).trans zx
                              have y5 := (hcf _).trans zxf
                              have HM3 : Hid (MtSt (w5.setCell ⟨nthN ρ t, x, none⟩ (.bool true)) D N N ρ (Mk.set t ((rowB Mk t).set x true))) := by rw [hw5]; exact HM2
                              have HK3 : Hid (Kp (fun j => ∃ k, k < N ∧ j = nthN ρ k) w3 (w5.setCell ⟨nthN ρ t, x, none⟩ (.bool true))) := by rw [hw5]; exact HK1
                              have HK4 : Hid (Kp (fun j => ∃ k, k < N ∧ j = nthN ρ k) W5 (w5.setCell ⟨nthN ρ t, x, none⟩ (.bool true))) := by rw [hw5]; exact HK2
                              rw [← hw5]
                              clear hcl hcf hw5 z0 z1 z2 zr zD zx zxf HM2 HK1 HK2
                              refine wpStill_of_quiet _ _ ?_
                              repeat (first | go_big_quiet_skip | (go_big_quiet_want; go_big_quiet_op; go_big_quiet_on))
                              refine wpQuiet_nil ?_
                              go_wp2_with fail
                              go_roundw
                              case rel => exact ⟨k + 1, _, by omega, by go_num, ⟨HK3.out, HK4.out⟩, HM3.out, HE2.out⟩
                              case measure => simp [intOf]; omega
              · as_aux_lemma =>
                  have hM2 : EdM N (Ed LV EM (G.prods.take (m + 1))) Mk := HM.out.2.congr (fun a b => by
                    rw [HPS.out a b]
                    cases ok
                    · exact ⟨fun q => q.elim .inl (fun q => absurd q (EdK.dead HOK.out.symm)), fun q => q.elim .inl (fun q => absurd q (EdK.dead HOK.out.symm))⟩
                    · have : k = r.length := by
                        rw [HR.out]
                        apply Classical.byContradiction
                        intro hne
                        exact hgo ⟨by omega, rfl⟩
                      rw [this])
                  have HM2 := Lib.hid hM2
                  clear hM2
                  cases ok
                  · by_cases hkn : k < n'
                    all_goals
                      go_wp2_with fail
                      go_roundw
                      case rel => exact ⟨m + 1, by omega, by go_num, HKK.out.1, Mk, HM.out.1, HM2.out⟩
                      case measure => simp [intOf]; omega
                  · have hkn : ¬ k < n' := fun h => hgo ⟨h, rfl⟩
                    go_wp2_with fail
                    go_roundw
                    case rel => exact ⟨m + 1, by omega, by go_num, HKK.out.1, Mk, HM.out.1, HM2.out⟩
                    case measure => simp [intOf]; omega
      · as_aux_lemma =>
          have he : G.prods.take m = G.prods := List.take_of_length_le (by rw [HP1.out]; omega)
          have hY2 := HY.out.2
          rw [he] at hY2
          have HY2 := Lib.hid (FwR.start hY2); have HY1 := Lib.hid HY.out.1
          clear he hY2 HY
          rw [HN.out] at c1
          go_wp2_with fail
          clear c0 c1 c2 gr3 c4 c5 hkw
          obtain ⟨wo, rfl⟩ : ∃ wo : World, wo = wr := ⟨_, rfl⟩
          go_loopw [12] (fun i wr' => ∃ q : Nat, q ≤ N ∧ i = .int .i64 q ∧ Kp (fun j => ∃ k, k < N ∧ j = nthN ρ k) w3 wr' ∧ ∃ M0 : List (List Bool), Hid (MtSt wr' D N N ρ M0 ∧ FwR N (Ed LV EM G.prods) M0 q)) (fun i _ => N - (intOf i).toNat)
          case atStart => exact ⟨0, Nat.zero_le _, rfl, hkr, y, HY1.out, HY2.out⟩
          case round =>
            as_aux_lemma =>
              clear hkr HY1 HY2
              obtain ⟨q, hq, rfl, hkr, M0, HM0⟩ := hrel
              obtain ⟨c0, c1, c2, gr3, c4, c5⟩ := HGB3.out.below ((KP.out _ hkr).mono (by omega)) (by omega)
              rw [HN.out] at c1
              by_cases hqN : q < N
              · as_aux_lemma =>
                  go_wp2_with fail
                  clear c0 c1 c2 gr3 c4 c5
                  obtain ⟨wo2, rfl⟩ : ∃ wo2 : World, wo2 = wr := ⟨_, rfl⟩
                  have hS0 := FwS.start (m := q) HM0.out.2.rect
                  have HS0 := Lib.hid hS0; clear hS0
                  go_loopw [13] (fun i wr' => ∃ a : Nat, a ≤ N ∧ i = .int .i64 a ∧ Kp (fun j => ∃ k, k < N ∧ j = nthN ρ k) w3 wr' ∧ ∃ M : List (List Bool), Hid (MtSt wr' D N N ρ M ∧ FwS N M0 M q a 0)) (fun i _ => N - (intOf i).toNat)
                  case atStart => exact ⟨0, Nat.zero_le _, rfl, hkr, M0, HM0.out.1, HS0.out⟩
                  case round =>
                    as_aux_lemma =>
                      clear hkr HS0
                      obtain ⟨a, ha, rfl, hkr, M, HMa⟩ := hrel
                      obtain ⟨c0, c1, c2, gr3, c4, c5⟩ := HGB3.out.below ((KP.out _ hkr).mono (by omega)) (by omega)
                      rw [HN.out] at c1
                      by_cases haN : a < N
                      · as_aux_lemma =>
                          go_wp2_with fail
                          clear c0 c1 c2 gr3 c4 c5
                          obtain ⟨wo3, rfl⟩ : ∃ wo3 : World, wo3 = wr := ⟨_, rfl⟩
                          go_loopw [14] (fun i wr' => ∃ b : Nat, b ≤ N ∧ i = .int .i64 b ∧ Kp (fun j => ∃ k, k < N ∧ j = nthN ρ k) w3 wr' ∧ ∃ M : List (List Bool), Hid (MtSt wr' D N N ρ M ∧ FwS N M0 M q a b)) (fun i _ => N - (intOf i).toNat)
                          case atStart => exact ⟨0, Nat.zero_le _, rfl, hkr, M, HMa.out⟩
                          case round =>
                            as_aux_lemma =>
                              clear hkr HMa
                              obtain ⟨b, hb, rfl, hkr, M, HMb⟩ := hrel
                              obtain ⟨c0, c1, c2, gr3, c4, c5⟩ := HGB3.out.below ((KP.out _ hkr).mono (by omega)) (by omega)
                              rw [HN.out] at c1
                              by_cases hbN : b < N
                              · as_aux_lemma =>
                                  have hnx := HMb.out.2.next haN hbN
                                  have e1 := HMb.out.2.ab haN hbN
                                  have e2 := HMb.out.2.am haN hqN
                                  have e3 := HMb.out.2.mb hqN hbN
                                  unfold ent at e1 e2 e3
                                  have zDa := HMb.out.1.d a haN
                                  have zDq := HMb.out.1.d q hqN
                                  obtain ⟨ra, rla⟩ := HMb.out.1.rows a haN
                                  obtain ⟨rq, rlq⟩ := HMb.out.1.rows q hqN
                                  have zab := ra.bcell (k := b) (by rw [rla]; exact hbN)
                                  have zam := ra.bcell (k := q) (by rw [rla]; exact hqN)
                                  have zmb := rq.bcell (k := b) (by rw [rlq]; exact hbN)
                                  have zf := ra.frozen b
                                  rw [e1] at zab
                                  rw [e2] at zam
                                  rw [e3] at zmb
                                  unfold ent at hnx
                                  obtain ⟨vab, h1⟩ : ∃ v, v = bth (rowB M0 a) b := ⟨_, rfl⟩
                                  obtain ⟨vam, h2⟩ : ∃ v, v = bth (rowB M0 a) q := ⟨_, rfl⟩
                                  obtain ⟨vmb, h3⟩ : ∃ v, v = bth (rowB M0 q) b := ⟨_, rfl⟩
                                  rw [← h1] at zab hnx
                                  rw [← h2] at zam hnx
                                  rw [← h3] at zmb hnx
                                  obtain ⟨w5, hw5⟩ : ∃ w5, w5 = wr.drew := ⟨_, rfl⟩
                                  have hcl : ∀ p, w5.cell? p = wr.cell? p := by intro p; rw [hw5]; rfl
                                  have hcf : ∀ p, w5.frozen? p = wr.frozen? p := by intro p; rw [hw5]; rfl
                                  have y0 := (hcl _).trans zDa
                                  have y1 := (hcl _).trans zDq
                                  have y2 := (hcl _).trans zab
                                  have y3 := (hcl _).trans zam
                                  have y4 := (hcl _).trans zmb
                                  have y5 := (hcf _).trans zf
                                  have hM3 : ∀ v, MtSt (w5.setCell ⟨nthN ρ a, b, none⟩ (.bool v)) D N N ρ (M.set a ((rowB M a).set b v)) := fun v => by
                                    rw [hw5]; exact HMb.out.1.set_ haN (r := (rowB M a).set b v) (by rw [List.length_set]; exact rla) (Kp.set_ (S := fun j => j = nthN ρ a) (p := ⟨nthN ρ a, b, none⟩) (Kp.refl _ wr) (.inr rfl) (.bool v)).draw (ra.bset b v).drew
                                  have hK3 : ∀ v, Kp (fun j => ∃ k, k < N ∧ j = nthN ρ k) w3 (w5.setCell ⟨nthN ρ a, b, none⟩ (.bool v)) := fun v => by
                                    rw [hw5]; exact (hkr.set_ (p := ⟨nthN ρ a, b, none⟩) (.inr ⟨a, haN, rfl⟩) (.bool v)).draw
                                  have HM3 := Lib.hid hM3; have HK3 := Lib.hid hK3; have HNX := Lib.hid hnx; have HW5 := Lib.hid hw5; have Y0 := Lib.hid y0; have Y1 := Lib.hid y1; have Y2 := Lib.hid y2; have Y3 := Lib.hid y3; have Y4 := Lib.hid y4; have Y5 := Lib.hid y5
                                  clear e1 e2 e3 zDa zDq ra rla rq rlq zab zam zmb zf hcl hcf hM3 hK3 hnx h1 h2 h3 hw5 HMb HM0 c0 c2 gr3 c4 c5 y0 y1 y2 y3 y4 y5
                                  go_wp2_with fail
                                  clear c1
                                  have y0 := Y0.out; have y1 := Y1.out; have y2 := Y2.out; have y3 := Y3.out; have y4 := Y4.out; have y5 := Y5.out
                                  refine wp_region_still_tail 31 (by kernel_rfl) (by kernel_rfl) ?_
                                  simp only [List.take_succ_cons, List.take_zero, List.drop_succ_cons, List.drop_zero]
                                  change wpStill _ _ wr.drew (fun a' => wpList _ _ _ _ a' wr.drew) _ _
                                  rw [← HW5.out]
                                  clear HW5
                                  refine wpStill_of_quiet _ _ ?_
                                  cases vab <;> cases vam <;> cases vmb
                                  all_goals
                                    repeat (first | go_big_quiet_skip | (go_big_quiet_want; go_big_quiet_op; go_big_quiet_on))
                                    refine wpQuiet_nil ?_
                                    go_wp2_with fail
                                    go_roundw
                                    case rel => exact ⟨b + 1, by omega, by go_num, HK3.out _, _, HM3.out _, HNX.out⟩
                                    case measure => simp [intOf]; omega
                              · as_aux_lemma =>
                                  have hbe : b = N := by omega
                                  have hr := HMb.out.2
                                  rw [hbe] at hr
                                  have HR2 := Lib.hid hr.row
                                  clear hbe hr
                                  go_wp2_with fail
                                  go_roundw
                                  case rel => exact ⟨a + 1, by omega, by go_num, hkr, M, HMb.out.1, HR2.out⟩
                                  case measure => simp [intOf]; omega
                      · as_aux_lemma =>
                          have hae : a = N := by omega
                          have hr := HMa.out.2
                          rw [hae] at hr
                          have HR2 := Lib.hid (HM0.out.2.next hqN hr)
                          clear hae hr
                          go_wp2_with fail
                          go_roundw
                          case rel => exact ⟨q + 1, by omega, by go_num, hkr, M, HMa.out.1, HR2.out⟩
                          case measure => simp [intOf]; omega
              · as_aux_lemma =>
                  have hqe : q = N := by omega
                  have hr := HM0.out.2
                  rw [hqe] at hr
                  have HFW := Lib.hid hr
                  have hmk := mk_row elBg rfl .i64 .i64 N (N : Int) rfl (by omega) (by omega) wr
                  clear hqe hr gr3 c2 c3 c4 c5
                  go_upto_region 31 with (fail)
                  clear hmk
                  have hl0 := Blk.made wr 4 (.bool false) N
                  rw [bv_rep] at hl0
                  have hb8 : Below wr.heap.size wr (wr.alloc (.cells (zs (.bool false) N) 4)) := (Below.refl _ _).alloc (Nat.le_refl _) _
                  have hM8 := HM0.out.1.below hb8
                  have hkr8 := hkr.alloc (.cells (zs (.bool false) N) 4)
                  obtain ⟨gz, hgz⟩ : ∃ gz, gz = wr.heap.size := ⟨_, rfl⟩
                  rw [← hgz] at hl0 hb8 ⊢
                  have hgD := HM0.out.1.dl
                  have hgr := fun k (hk : k < N) => (HM0.out.1.rows k hk).1.lt
                  have hwz := hkr.size
                  generalize wr.alloc (.cells (zs (.bool false) N) 4) = W8 at *
                  have HL0 := Lib.hid hl0; have HM8 := Lib.hid hM8; have HK8 := Lib.hid hkr8; have HGR := Lib.hid hgr
                  have hgz3 : w3.heap.size ≤ gz := by omega
                  have hgDz : D < gz := by omega
                  rw [← hgz] at HGR
                  clear hl0 hM8 hkr8 hgr hb8 hkr hwz hgz hgD c0 c1 HM0
                  go_wp2_with fail
                  go_loopw [16] (fun i wr' => ∃ n : Nat, n ≤ N ∧ i = .int .i64 n ∧ Kp (fun j => j = gz) W8 wr' ∧ ∃ x : List Bool, Hid (Blk wr' gz 4 (bv x) ∧ x.length = N ∧ ∀ j, j < n → bth x j = ent M0 j j)) (fun i _ => N - (intOf i).toNat)
                  case atStart => exact ⟨0, Nat.zero_le _, rfl, Kp.refl _ _, _, HL0.out, by simp, fun j hj => by omega⟩
                  case round =>
                    as_aux_lemma =>
                      obtain ⟨n, hn, rfl, hk, x, HX⟩ := hrel
                      have hM := HM8.out.keep hk (by omega) (fun k hk => by have := HGR.out k hk; omega)
                      have hkw3 : Kp (fun j => ∃ k, k < N ∧ j = nthN ρ k) w3 wr := HK8.out.step hk (.inl hgz3)
                      obtain ⟨c0, c1, c2, gr3, c4, c5⟩ := HGB3.out.below ((KP.out _ hkw3).mono (by omega)) (by omega)
                      rw [HN.out] at c1
                      clear c0 c2 gr3 c4 c5
                      by_cases hnN : n < N
                      · as_aux_lemma =>
                          have zD := hM.d n hnN
                          obtain ⟨rn, rln⟩ := hM.rows n hnN
                          have zn := rn.bcell (k := n) (by rw [rln]; exact hnN)
                          have zx := HX.out.1.bcell (k := n) (by rw [HX.out.2.1]; exact hnN)
                          have zxf := HX.out.1.frozen n
                          have hX2 : Blk (wr.setCell ⟨gz, n, none⟩ (.bool (bth (rowB M0 n) n))) gz 4 (bv (x.set n (bth (rowB M0 n) n))) ∧ (x.set n (bth (rowB M0 n) n)).length = N ∧ ∀ j, j < n + 1 → bth (x.set n (bth (rowB M0 n) n)) j = ent M0 j j := by
                            refine ⟨HX.out.1.bset n _, by rw [List.length_set]; exact HX.out.2.1, fun j hj => ?_⟩
                            rw [bth_set (by rw [HX.out.2.1]; exact hnN)]
                            split
                            · rename_i e; subst e; rfl
                            · exact HX.out.2.2 j (by omega)
                          have HX2 := Lib.hid hX2
                          clear hX2 rn rln hM hkw3 HX
                          generalize bth (rowB M0 n) n = v at *
                          generalize bth x n = v2 at zx
                          go_wp2_with fail
                          go_roundw
                          case rel => exact ⟨n + 1, by omega, by go_num, hk.set_ (p := ⟨gz, n, none⟩) (.inr rfl) _, _, HX2.out⟩
                          case measure => simp [intOf]; omega
                      · as_aux_lemma =>
                          have hne : n = N := by omega
                          have h3 := HX.out.2.2
                          rw [hne] at h3
                          have H3 := Lib.hid h3
                          have hkf := KP.out _ hkw3
                          have HKF := Lib.hid (HW3.out.trans (hkf.mono (by omega)))
                          clear hne h3 hM hkf hkw3
                          go_wp2_with fail
                          go_ret
                          refine ⟨gz, x, rfl, by omega, HX.out.1, HX.out.2.1, fun n hn => ?_, HKF.out⟩
                          have hE : ∀ a b, Ed LV EM G.prods a b → a < N ∧ b < N := fun a b ⟨p, hp, _, k, _, hk2, hk3, e1, e2, _⟩ => by
                            obtain ⟨f0, f1, f2⟩ := HFIT.out p hp
                            exact ⟨by omega, by rw [← e2]; exact f2 _ (mem_nth hk2) hk3⟩
                          rw [← HLV.out, ← HEM.out, H3.out n hn, ← HFW.out.done hE hn]
                          exact ⟨fun q => ⟨q, hn⟩, fun q => q.1⟩
end Go.Proofs.Ytgfchgnebpogjaa
