/- The document's follow: what stands behind one place. -/
import Derived.Test.YtgfchgnebpogjaaZ20
import Derived.Test.YtgfchgnebpogjaaZ15
namespace Go.Proofs.Ytgfchgnebpogjaa
open Go.RowKit BigFrame
set_option linter.unusedVariables false
set_option linter.unusedSimpArgs false
set_option maxRecDepth 100000

set_option maxHeartbeats 4000000 in
theorem rfollow_any (G : Gr) (Ap Al As : Option Addr) (np cp nl cl ns cs : Nat) (w : World) (B N T t n k n' c' ge DF DL cF cL : Nat) (r : List Int) (py : Int) (A' : Option Addr) (EM : List Bool) (FT M : List (List Bool)) (ρF ρL : List Nat) (hB : B ≤ w.heap.size)
    (hT : G.terms = T) (hTT : T ≤ 300) (hNN : N ≤ 300) (hr : RdI w B A' r) (hrl : r.length = n') (hn' : n' ≤ 20) (hk : k < n') (h0 : nth r k < 0) (hn : (-1 - nth r k).toNat = n) (hnN : n < N) (ht : t < N) (hfit : FitS N T r)
    (hge : Blk w ge 4 (bv EM)) (hEM : EM.length = N) (hF : MtSt w DF N T ρF FT) (hL : MtSt w DL N (T + 1) ρL M) (hcF : N ≤ cF) (hcL : N ≤ cL)
    (d1 : B ≤ nthN ρL n) (d2 : nthN ρL n ≠ ge) (d3 : nthN ρL n ≠ DF) (d4 : ∀ j, j < N → nthN ρF j ≠ nthN ρL n) :
    Calls Try.prog 67 #[.agg #[.int .i64 G.terms, .int .i64 G.names, .int .i64 G.start, .slice Ap np cp, .slice Al nl cl, .slice As ns cs], .agg #[.int .i64 (t : Int), .slice A' n' c', .int .i64 py], .int .i64 k, .slice (some ⟨ge, 0, none⟩) N N, .slice (some ⟨DF, 0, none⟩) N cF, .slice (some ⟨DL, 0, none⟩) N cL] w
      fun e w' => e = .returned (.tuple #[]) ∧ MtSt w' DL N (T + 1) ρL (M.set n (foA EM FT T (r.drop (k + 1)) (rowB M n) (rowB M t))) ∧ Kp (fun j => j = nthN ρL n) w w' := by
  obtain ⟨hb0, hs0, gb⟩ := gbox w G Ap Al As np cp nl cl ns cs
  have hs0 : (w.alloc (.cells #[.int .i64 G.terms, .int .i64 G.names, .int .i64 G.start, .slice Ap np cp, .slice Al nl cl, .slice As ns cs] 30)).heap.size = w.heap.size + 1 := by simp
  have hLr := hL.rows n hnN
  have hrowlt := hLr.1.lt
  have HGB := Lib.hid gb; have HT := Lib.hid hT; have HR := Lib.hid hr; have HRL := Lib.hid hrl; have HFIT := Lib.hid hfit; have HGE := Lib.hid hge; have HF := Lib.hid hF; have HL := Lib.hid hL; have HD4 := Lib.hid d4
  clear gb hT hr hrl hfit hge hF hL hs0 hLr d4 hb0
  obtain ⟨s0, hs0⟩ : ∃ s0, s0 = nth r k := ⟨_, rfl⟩
  have hsn : -1 - s0 = (n : Int) := by rw [hs0]; omega
  obtain ⟨a0, ha0⟩ : ∃ a0, a0 = rowB M n := ⟨_, rfl⟩
  obtain ⟨L0, hL0⟩ : ∃ L0, L0 = rowB M t := ⟨_, rfl⟩
  rw [← ha0, ← hL0]
  go_enter Try.func67, Try.ntmps67
  go_upto_region 1 with (fail)
  have hbp := Blk.new (w.alloc (.cells #[.int .i64 G.terms, .int .i64 G.names, .int .i64 G.start, .slice Ap np cp, .slice Al nl cl, .slice As ns cs] 30)) 50 [.int .i64 (t : Int), .slice A' n' c', .int .i64 py]
  obtain ⟨W2, hW2⟩ : ∃ W2, W2 = (w.alloc (.cells #[.int .i64 G.terms, .int .i64 G.names, .int .i64 G.start, .slice Ap np cp, .slice Al nl cl, .slice As ns cs] 30)).alloc (.cells #[.int .i64 (t : Int), .slice A' n' c', .int .i64 py] 50) := ⟨_, rfl⟩
  have hb2 : Below w.heap.size w W2 := by rw [hW2]; exact (((Below.refl w.heap.size w).alloc (Nat.le_refl _) _).alloc (by simp) _)
  have hgb2 : GrBox W2 w.heap.size G Ap Al As np cp nl cl ns cs := by rw [hW2]; exact HGB.out.below ((Below.refl _ _).alloc (Nat.le_refl _) _) (by simp)
  have hbp2 : Blk W2 (w.heap.size + 1) 50 [.int .i64 (t : Int), .slice A' n' c', .int .i64 py] := by
    rw [hW2]; simpa using hbp
  have hs2 : W2.heap.size = w.heap.size + 2 := by rw [hW2]; simp
  have hne : (w.alloc (.cells #[.int .i64 G.terms, .int .i64 G.names, .int .i64 G.start, .slice Ap np cp, .slice Al nl cl, .slice As ns cs] 30)).heap.size = w.heap.size + 1 := by simp
  rw [← hW2]
  have hkey : ∀ wr, Kp (fun j => j = nthN ρL n) W2 wr → wr.cell? ⟨w.heap.size, 0, none⟩ = some (.int .i64 (T : Int)) ∧ Blk wr (w.heap.size + 1) 50 [.int .i64 (t : Int), .slice A' n' c', .int .i64 py] ∧ RdI wr B A' r ∧ Blk wr ge 4 (bv EM) ∧ MtSt wr DF N T ρF FT ∧ w.heap.size + 2 ≤ wr.heap.size ∧ Below B W2 wr := fun wr h => by
    have hz := HGE.out.lt
    have hz2 := HF.out.dl
    have hzs := h.size
    refine ⟨?_, ?_, ?_, ?_, ?_, by omega, h.bel (by omega) (fun j hj e => by omega)⟩
    · rw [h.cell (p := ⟨w.heap.size, 0, none⟩) (by show w.heap.size < _; omega) (by show ¬ w.heap.size = _; omega), hgb2.c0, HT.out]
    · exact (h.block (w.heap.size + 1) (by omega) (by omega)).trans hbp2
    · exact Rd.keep HR.out (fun p hp => (h.cell (p := p) (by omega) (by omega)).trans (hb2.cell (p := p) (by omega)))
    · exact (h.block ge (by omega) (fun e => d2 e.symm)).trans (HGE.out.below' hb2)
    · exact (HF.out.below hb2).keep h (fun e => d3 e.symm) (fun j hj e => HD4.out j hj e)
  have hL2 := HL.out.below hb2
  have HKEY := Lib.hid hkey
  have HW2 : Hid (∀ wr, Kp (fun j => j = nthN ρL n) W2 wr → Kp (fun j => j = nthN ρL n) w wr) := Lib.hid (fun wr h => (Kp.of hb2).trans h)
  have hal : (rowB M n).length = T + 1 := (hL2.rows n hnN).2
  have hLl : (rowB M t).length = T + 1 := (hL2.rows t ht).2
  have hnt : n = t → a0 = L0 := fun e => by rw [ha0, hL0, e]
  rw [← ha0] at hal
  rw [← hL0] at hLl
  have hM0 : MtSt W2 DL N (T + 1) ρL (M.set n a0) := by rw [ha0, rowB_get (by rw [hL2.ml]; exact hnN), List.set_getElem_self]; exact hL2
  have HM0 := Lib.hid hM0
  have hML := hL2.ml
  have HLT : Hid (L0 = rowB M t) := Lib.hid hL0
  clear hkey hb2 hL2 hM0 ha0 hL0 hbp hgb2 hbp2 hne hW2 HGB HR HGE HF HL HD4
  obtain ⟨q0, q1, q2, q3, q4, q5, q6⟩ := HKEY.out W2 (Kp.refl _ _)
  have z0 := q1.cell (i := 0) rfl
  have z1 := q1.cell (i := 1) rfl
  have z2 := q1.cell (i := 2) rfl
  obtain ⟨b', off', rfl, hb', zr⟩ := q2.get1 (k := k) (by rw [HRL.out]; exact hk)
  rw [← hs0] at zr
  clear q1 q2 q3 q4
  go_wp2_with fail
  clear z0 z1 z2 zr q0 q5 q6
  go_loopw [13] (fun i wr => ∃ j : Nat, k + 1 ≤ j ∧ j ≤ n' ∧ i = .int .i64 j ∧ Hid (Kp (fun j => j = nthN ρL n) W2 wr) ∧ ∃ a : List Bool, Hid (MtSt wr DL N (T + 1) ρL (M.set n a) ∧ a.length = T + 1 ∧ foA EM FT T (r.drop (k + 1)) a0 L0 = foA EM FT T (r.drop j) a L0 ∧ (n = t → ∀ x, bth L0 x = true → bth a x = true))) (fun i _ => n' - (intOf i).toNat)
  case atStart => exact ⟨k + 1, Nat.le_refl _, by omega, by go_num, Kp.refl _ _, a0, HM0.out, hal, rfl, fun e x hx => by rw [hnt e]; exact hx⟩
  case round =>
    as_aux_lemma =>
      clear HM0 hnt hal
      obtain ⟨j, hj1, hj2, rfl, HK, a, HA⟩ := hrel
      obtain ⟨q0, q1, q2, q3, q4, q5, q6⟩ := HKEY.out wr HK.out
      have z0 := q1.cell (i := 0) rfl
      have z1 := q1.cell (i := 1) rfl
      have z2 := q1.cell (i := 2) rfl
      by_cases hjn : j < n'
      · as_aux_lemma =>
          obtain ⟨b2, off2, e2, hb2, zr⟩ := q2.get1 (k := j) (by rw [HRL.out]; exact hjn)
          obtain ⟨rfl, rfl⟩ : b2 = b' ∧ off2 = off' := by simpa using e2.symm
          have hdr : r.drop j = nth r j :: r.drop (j + 1) := by rw [List.drop_eq_getElem_cons (by rw [HRL.out]; exact hjn), ← nth_get]
          have hff := nth_fit (N := N) (T := T) HFIT.out (k := j) (by rw [HRL.out]; exact hjn)
          have hst := HA.out.2.2.1
          rw [hdr, foA] at hst
          have zD := HA.out.1.d n hnN
          have HMT : Hid (MtSt wr DL N (T + 1) ρL (M.set n a)) := Lib.hid HA.out.1
          have hrow := HA.out.1.rows n hnN
          have er : rowB (M.set n a) n = a := by rw [rowB_set (by rw [hML]; exact hnN), if_pos rfl]
          rw [er] at hrow
          generalize nth r j = s at zr hff hst
          clear hdr er q1 q2 e2
          by_cases hs : 0 ≤ s
          · as_aux_lemma =>
              obtain ⟨x, rfl⟩ := Int.eq_ofNat_of_zero_le hs
              rw [if_pos hs, Int.toNat_natCast] at hst
              have hxT : x < T := by have := hff.2; omega
              have zx := hrow.1.bcell (k := x) (by rw [hrow.2]; omega)
              have zxf := hrow.1.frozen x
              have HM2 : Hid (∀ wr', Kp (fun j => j = nthN ρL n) wr wr' → Blk wr' (nthN ρL n) 4 (bv (a.set x true)) → MtSt wr' DL N (T + 1) ρL (M.set n (foA EM FT T (r.drop (k + 1)) a0 L0))) := Lib.hid (fun wr' h1 h2 => by
                have h := HMT.out.set_ hnN (r := a.set x true) (by rw [List.length_set]; exact hrow.2) h1 h2
                rw [List.set_set] at h
                rwa [hst])
              have HRW := Lib.hid hrow.1
              generalize bth a x = vx at zx
              clear hst hff hrow q3 q4
              go_wp2_with fail
              refine bodyPost_ret (results_none rfl _ _ _) rfl ?_
              exact ⟨rfl, HM2.out _ (Kp.set_ (S := fun j => j = nthN ρL n) (p := ⟨nthN ρL n, x, none⟩) (Kp.refl _ wr) (.inr rfl) _) (HRW.out.bset x true), HW2.out _ (HK.out.set_ (p := ⟨nthN ρL n, x, none⟩) (.inr rfl) _)⟩
          · as_aux_lemma =>
              obtain ⟨x, hx1⟩ : ∃ x : Nat, x = (-1 - s).toNat := ⟨_, rfl⟩
              have hx := hff.1 (by omega)
              rw [← hx1] at hx hst
              rw [if_neg hs] at hst
              have hxs : -1 - s = (x : Int) := by omega
              obtain ⟨c, hc⟩ : ∃ c, c = rowB FT x := ⟨_, rfl⟩
              have hcl : c.length = T := by rw [hc]; exact (q4.rows x hx).2
              rw [← hc] at hst
              have HST := Lib.hid hst
              have HC := Lib.hid hc
              have hMa : MtSt wr DL N (T + 1) ρL (M.set n (orK a c 0)) := by rw [orK_zero]; exact HMT.out
              have HM0 := Lib.hid hMa
              have hal := hrow.2
              have HLA := Lib.hid HA.out.2.2.2
              clear hst hc hMa hrow hff HA HMT zD q3 q4 hx1 hs
              go_wp2_with fail
              clear z0 z1 z2 zr q0 q5 q6
              obtain ⟨wo, rfl⟩ : ∃ wo : World, wo = wr := ⟨_, rfl⟩
              go_loopw [15] (fun i wr' => ∃ u : Nat, u ≤ T ∧ i = .int .i64 u ∧ Hid (Kp (fun j => j = nthN ρL n) W2 wr') ∧ Hid (MtSt wr' DL N (T + 1) ρL (M.set n (orK a c u)))) (fun i _ => T - (intOf i).toNat)
              case atStart => exact ⟨0, Nat.zero_le _, rfl, HK.out, HM0.out⟩
              case round =>
                as_aux_lemma =>
                  clear HK HM0
                  obtain ⟨u, hu, rfl, HK, HM⟩ := hrel
                  obtain ⟨q0, q1, q2, q3, q4, q5, q6⟩ := HKEY.out wr HK.out
                  have z0 := q1.cell (i := 0) rfl
                  have z1 := q1.cell (i := 1) rfl
                  have z2 := q1.cell (i := 2) rfl
                  have HQ3 := Lib.hid q3; have HQ4 := Lib.hid q4
                  clear q1 q2 q3 q4
                  by_cases huT : u < T
                  · as_aux_lemma =>
                      have hstep := orK_step2 hal hcl (by omega : T ≤ T + 1) huT
                      have zD := HM.out.d n hnN
                      have zF := HQ4.out.d x hx
                      have hrt := HM.out.rows n hnN
                      have hrx := HQ4.out.rows x hx
                      rw [rowB_set (by rw [hML]; exact hnN), if_pos rfl] at hrt
                      have zt := hrt.1.bcell (k := u) (by rw [hrt.2]; omega)
                      rw [orK_nth2 hal hcl (by omega : T ≤ T + 1) hu (by omega), if_neg (by omega)] at zt
                      have zx := hrx.1.bcell (k := u) (by rw [hrx.2]; exact huT)
                      rw [← HC.out] at zx
                      have ztf := hrt.1.frozen u
                      have HSET : Hid (∀ wr', Kp (fun j => j = nthN ρL n) wr wr' → Blk wr' (nthN ρL n) 4 (bv ((orK a c u).set u (bth a u || bth c u))) → MtSt wr' DL N (T + 1) ρL (M.set n (orK a c (u + 1)))) := Lib.hid (fun wr' h1 h2 => by
                        have h := HM.out.set_ hnN (r := (orK a c u).set u (bth a u || bth c u)) (by rw [List.length_set]; exact hrt.2) h1 h2
                        rw [List.set_set] at h
                        rwa [hstep])
                      have HRT := Lib.hid hrt.1
                      clear hstep hrt hrx HM HQ3 HQ4
                      generalize bth a u = va at *
                      generalize bth c u = vc at *
                      cases va <;> cases vc
                      all_goals
                        go_wp2_with fail
                        go_region
                        go_wp2_with fail
                        go_roundw
                        case rel => exact ⟨u + 1, by omega, by go_num, (HK.out.set_ (p := ⟨nthN ρL n, u, none⟩) (.inr rfl) _).draw, HSET.out _ (Kp.set_ (S := fun j => j = nthN ρL n) (p := ⟨nthN ρL n, u, none⟩) (Kp.refl _ wr) (.inr rfl) _).draw (HRT.out.bset u _).drew⟩
                        case measure => simp [intOf]; omega
                  · as_aux_lemma =>
                      have huT2 : u = T := by omega
                      subst huT2
                      have ze := HQ3.out.bcell (k := x) (by rw [hEM]; exact hx)
                      have HST2 := Lib.hid HST.out
                      cases hv : bth EM x
                      · rw [hv] at ze HST2
                        have HF : Hid (MtSt wr DL N (u + 1) ρL (M.set n (foA EM FT u (r.drop (k + 1)) a0 L0))) := Lib.hid (by rw [HST2.out]; exact HM.out)
                        clear hv HST
                        go_wp2_with fail
                        refine bodyPost_ret (results_none rfl _ _ _) rfl ?_
                        exact ⟨rfl, HF.out, HW2.out _ HK.out⟩
                      · rw [hv] at ze HST2
                        clear hv HST
                        go_wp2_with fail
                        go_roundw
                        case rel => exact ⟨j + 1, by omega, by omega, by go_num, HK, orK a c u, HM.out, orK_len2 hal hcl (by omega) (by omega), HST2.out, fun e y hy => by
                          have hyl := bth_lt hy
                          have h := HLA.out e y hy
                          rw [orK_nth2 hal hcl (by omega) (by omega) (by omega), h]
                          split <;> rfl⟩
                        case measure => simp [intOf]; omega
      · as_aux_lemma =>
          have hdr : r.drop j = [] := List.drop_eq_nil_of_le (by rw [HRL.out]; omega)
          have hst := HA.out.2.2.1
          rw [hdr, foA] at hst
          have hal := HA.out.2.1
          have hMa : MtSt wr DL N (T + 1) ρL (M.set n (orK a L0 0)) := by rw [orK_zero]; exact HA.out.1
          have HM0 := Lib.hid hMa; have HST := Lib.hid hst; have HLA := Lib.hid HA.out.2.2.2
          clear hdr hst hMa HA q1 q2 q3 q4
          go_wp2_with fail
          clear z0 z1 z2 q0 q5 q6
          obtain ⟨wo, rfl⟩ : ∃ wo : World, wo = wr := ⟨_, rfl⟩
          go_loopw [16] (fun i wr' => ∃ u : Nat, u ≤ T + 1 ∧ i = .int .i64 u ∧ Hid (Kp (fun j => j = nthN ρL n) W2 wr') ∧ Hid (MtSt wr' DL N (T + 1) ρL (M.set n (orK a L0 u)))) (fun i _ => T + 1 - (intOf i).toNat)
          case atStart => exact ⟨0, Nat.zero_le _, rfl, HK.out, HM0.out⟩
          case round =>
            as_aux_lemma =>
              clear HK HM0
              obtain ⟨u, hu, rfl, HK, HM⟩ := hrel
              obtain ⟨q0, q1, q2, q3, q4, q5, q6⟩ := HKEY.out wr HK.out
              have z0 := q1.cell (i := 0) rfl
              have z1 := q1.cell (i := 1) rfl
              have z2 := q1.cell (i := 2) rfl
              clear q1 q2 q3 q4
              by_cases huT : u ≤ T
              · as_aux_lemma =>
                  have hstep := orK_step (T := T + 1) hal hLl (by omega : u < T + 1)
                  have zD := HM.out.d n hnN
                  have zDt := HM.out.d t ht
                  have hrt := HM.out.rows n hnN
                  have hrx := HM.out.rows t ht
                  have e2 : ∃ vx, bth (rowB (M.set n (orK a L0 u)) t) u = vx ∧ (bth a u || vx) = (bth a u || bth L0 u) := by
                    refine ⟨_, rfl, ?_⟩
                    rw [rowB_set (by rw [hML]; exact hnN)]
                    split
                    · rename_i e
                      rw [orK_nth (T := T + 1) hal hLl (by omega) (by omega), if_neg (by omega)]
                      have := HLA.out e u
                      cases h1 : bth L0 u
                      · cases bth a u <;> rfl
                      · rw [this h1]
                    · rw [← HLT.out]
                  obtain ⟨vx, e3, e4⟩ := e2
                  rw [rowB_set (by rw [hML]; exact hnN), if_pos rfl] at hrt
                  have zt := hrt.1.bcell (k := u) (by rw [hrt.2]; omega)
                  rw [orK_nth (T := T + 1) hal hLl (by omega) (by omega), if_neg (by omega)] at zt
                  have zx := hrx.1.bcell (k := u) (by rw [hrx.2]; omega)
                  rw [e3] at zx
                  have ztf := hrt.1.frozen u
                  have HSET : Hid (∀ wr', Kp (fun j => j = nthN ρL n) wr wr' → Blk wr' (nthN ρL n) 4 (bv ((orK a L0 u).set u (bth a u || vx))) → MtSt wr' DL N (T + 1) ρL (M.set n (orK a L0 (u + 1)))) := Lib.hid (fun wr' h1 h2 => by
                    have h := HM.out.set_ hnN (r := (orK a L0 u).set u (bth a u || vx)) (by rw [List.length_set]; exact hrt.2) h1 h2
                    rw [List.set_set] at h
                    rw [hstep, ← e4]; exact h)
                  have HRT := Lib.hid hrt.1
                  clear hstep hrt hrx HM e3 e4
                  generalize bth a u = va at *
                  cases va <;> cases vx
                  all_goals
                    go_wp2_with fail
                    go_region
                    go_wp2_with fail
                    go_roundw
                    case rel => exact ⟨u + 1, by omega, by go_num, (HK.out.set_ (p := ⟨nthN ρL n, u, none⟩) (.inr rfl) _).draw, HSET.out _ (Kp.set_ (S := fun j => j = nthN ρL n) (p := ⟨nthN ρL n, u, none⟩) (Kp.refl _ wr) (.inr rfl) _).draw (HRT.out.bset u _).drew⟩
                    case measure => simp [intOf]; omega
              · as_aux_lemma =>
                  have hu2 : u = T + 1 := by omega
                  have HF : Hid (MtSt wr DL N (T + 1) ρL (M.set n (foA EM FT T (r.drop (k + 1)) a0 L0))) := Lib.hid (by
                    have h := HM.out
                    rw [hu2, orK_all (T := T + 1) hal hLl] at h
                    rw [HST.out]; exact h)
                  clear hu2
                  go_wp2_with fail
                  go_end0
                  exact ⟨rfl, HF.out, HW2.out _ HK.out⟩
end Go.Proofs.Ytgfchgnebpogjaa
