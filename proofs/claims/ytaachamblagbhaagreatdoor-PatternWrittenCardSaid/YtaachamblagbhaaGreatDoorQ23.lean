/- The program's shaped: is a pattern of the right shape? -/
import Derived.Test.YtaachamblagbhaaGreatDoorQ11
import Derived.Test.YtaachamblagbhaaGreatDoorQ18
import Derived.Test.YtaachamblagbhaaGreatDoorQ14
import Derived.Deep.Cut
import Derived.Deep.CutRange
namespace Go.Proofs.YtaachamblagbhaaGreatDoor
open Go.RowKit BigFrame
set_option linter.unusedVariables false
set_option linter.unusedSimpArgs false
set_option maxRecDepth 100000

set_option maxHeartbeats 8000000 in
theorem pshaped_node (k : Int) (s : List Rg) (mn mx : Int) (ks : List Rx) (d : Nat) (hd : d ≤ 31) (B : Nat) (v : Value) (w : World) (hB : B ≤ w.heap.size) (hT : RxB w B v (.node k s mn mx ks)) (hs : s.length ≤ 12)
    (ih : d ≤ 30 → ∀ x ∈ ks, ∀ (u : Value) (W : World), B ≤ W.heap.size → RxB W B u x → Calls Tryz.prog 14 #[u, .int .i64 ((d : Int) + 1)] W fun e w' => e = .returned (.bool (shp (d + 1) x)) ∧ Below W.heap.size W w') :
    Calls Tryz.prog 14 #[v, .int .i64 (d : Int)] w fun e w' => e = .returned (.bool (shp d (.node k s mn mx ks))) ∧ Below w.heap.size w w' := by
  obtain ⟨b, A, c, A', c', rfl, hb, z0, z1, z2, z3, z4, h1, h2, h3, h4, h5, h6⟩ := hT.node_inv
  by_cases hd30 : d ≤ 30
  · obtain ⟨a1, ha1⟩ : ∃ a1, a1 = cntOk k ks.length := ⟨_, rfl⟩
    obtain ⟨a2, ha2⟩ : ∃ a2, a2 = tmsOk k mn mx := ⟨_, rfl⟩
    obtain ⟨a3, ha3⟩ : ∃ a3, a3 = canB 0 s := ⟨_, rfl⟩
    obtain ⟨res, hr0⟩ : ∃ res, res = shp d (.node k s mn mx ks) := ⟨_, rfl⟩
    rw [← hr0]
    have hres : res = (a1 && a2 && (a3 && (decide (k = 1) || decide (s = []))) && shpL (d + 1) ks) := by
      rw [hr0, shp, setOk, ← ha1, ← ha2, ← ha3]
      simp [hd30]
    have hkl : ks.length ≤ 9223372036854775807 := by unfold maxLen at h4; omega
    have HK : Hid (∀ W, Calls Tryz.prog 25 #[.int .i64 k, .int .i64 (ks.length : Int)] W fun e w' => e = .returned (.bool a1) ∧ w' = W) := Lib.hid (fun W => by rw [ha1]; exact counts_any k ks.length W hkl)
    have HC : Hid (∀ W, Below B w W → W.cell? ⟨b, 0, none⟩ = some (.int .i64 k) ∧ W.cell? ⟨b, 1, none⟩ = some (.slice A s.length c) ∧ W.cell? ⟨b, 2, none⟩ = some (.int .i64 mn) ∧ W.cell? ⟨b, 3, none⟩ = some (.int .i64 mx) ∧ W.cell? ⟨b, 4, none⟩ = some (.slice A' ks.length c')) :=
      Lib.hid (fun W hb2 => ⟨(hb2.cell (p := ⟨b, 0, none⟩) hb).trans z0, (hb2.cell (p := ⟨b, 1, none⟩) hb).trans z1, (hb2.cell (p := ⟨b, 2, none⟩) hb).trans z2, (hb2.cell (p := ⟨b, 3, none⟩) hb).trans z3, (hb2.cell (p := ⟨b, 4, none⟩) hb).trans z4⟩)
    have HRD : Hid (RdG w B A s) := Lib.hid (h5.rd fun _ q => q)
    have HKS := Lib.hid h6
    have HRES := Lib.hid hres; have HA3 := Lib.hid ha3; have HA2 := Lib.hid ha2; have HIH := Lib.hid (ih hd30)
    have hdec : decide ((30 : Int) < (d : Int)) = false := decide_eq_false (by omega)
    unfold maxLen at h2 h4
    clear hT h5 h6 hres ha1 ha2 ha3 ih hr0
    obtain ⟨n, hn⟩ : ∃ n, n = ks.length := ⟨_, rfl⟩
    obtain ⟨m, hm⟩ : ∃ m, m = s.length := ⟨_, rfl⟩
    have HN := Lib.hid hn; have HM := Lib.hid hm
    rw [← hn] at HK HC z4 h3 hkl HKS
    rw [← hm] at HC z1 h1 hs
    clear hn hm
    go_enter Tryz.func14, Tryz.ntmps14
    go_wp2_with fail
    go_quiet ((go_at_call 25; exact Calls.quiet_of_same (HK.out _)))
    obtain ⟨w1, hw1⟩ : ∃ w1, w1 = w.drewN nq := ⟨_, rfl⟩
    have hb1 : Below w.heap.size w w1 := by rw [hw1]; exact dn_belowP _ _
    rw [← hw1]
    have hs1 := hb1.size
    have HB1 := Lib.hid hb1
    obtain ⟨z0, z1, z2, z3, z4⟩ := HC.out w1 (hb1.mono hB)
    clear hw1 hb1
    cases a1 with
    | false =>
      as_aux_lemma =>
        have HE : Hid (res = false) := Lib.hid (by rw [HRES.out]; simp)
        go_wp2_with fail
        go_ret
        exact ⟨ret_eq (by rw [HE.out]; rfl), HB1.out⟩
    | true =>
    obtain ⟨sb, hsb⟩ : ∃ sb, sb = !(a3 && (decide (k = 1) || decide (s = []))) := ⟨_, rfl⟩
    have hloop : res = (a2 && !sb && shpL (d + 1) ks) := by
      rw [HRES.out, hsb]
      simp
    have HLP := Lib.hid hloop; have HSB := Lib.hid hsb
    have HSUM : Hid (∀ i x, ks[i]? = some x → shpL (d + 1) (ks.take (i + 1)) = (shpL (d + 1) (ks.take i) && shp (d + 1) x)) := Lib.hid (fun i x hx => shpL_take hx)
    clear hloop HRES hsb
    rw [Bool.not_true]
    go_upto_region 3 with (fail)
    go_cut [51] from 26 (fun t wx => t = .bool sb ∧ Hid (Below w.heap.size w wx))
    case first =>
      as_aux_lemma =>
        by_cases hbad : k ≠ 1 ∧ 0 < m
        · as_aux_lemma =>
            have HV : Hid (sb = true) := Lib.hid (by
              rw [HSB.out]
              have : s ≠ [] := fun e => by have := HM.out; rw [e] at this; simp at this; omega
              simp [hbad.1, this])
            have e1 : (k != 1) = true := by rw [bne_iff_ne]; exact hbad.1
            have e2 : decide ((0 : Int) < (m : Int)) = true := decide_eq_true (by omega)
            have e3 : decide (0 < m) = true := decide_eq_true (by omega)
            go_wp2_with fail
            go_quiet (fail)
            have HB2 := Lib.hid (HB1.out.trans ((dn_belowP w1 nq).mono hs1))
            go_wp2_with fail
            go_meet
            case rel => exact ⟨by rw [HV.out], HB2⟩
        · have hsb2 : sb = !a3 := by
            rw [HSB.out]
            by_cases q : k = 1
            · simp [q]
            · have hm0 : m = 0 := by omega
              have : s = [] := List.eq_nil_of_length_eq_zero (by rw [← HM.out]; exact hm0)
              simp [this]
          have HV := Lib.hid hsb2
          clear hsb2
          by_cases hk1 : k = 1
          · as_aux_lemma =>
              subst hk1
              obtain ⟨wd, hwd⟩ : ∃ wd, wd = w1.drew := ⟨_, rfl⟩
              have hbd : Below w1.heap.size w1 wd := by rw [hwd]; exact (Below.refl _ _).drew
              have hsd := hbd.size
              have hb0d := HB1.out.trans (hbd.mono hs1)
              have HB0 := Lib.hid hb0d
              obtain ⟨y0, y1, y2, y3, y4⟩ := HC.out wd (hb0d.mono hB)
              have x0 : ∀ X : WB wd.heap.size wd, X.val.cell? ⟨b, 0, none⟩ = some (.int .i64 1) := fun X => (X.bel.cell (p := ⟨b, 0, none⟩) (show b < wd.heap.size by omega)).trans y0
              have x1 : ∀ X : WB wd.heap.size wd, X.val.cell? ⟨b, 1, none⟩ = some (.slice A m c) := fun X => (X.bel.cell (p := ⟨b, 1, none⟩) (show b < wd.heap.size by omega)).trans y1
              have HCN := Lib.hid (canon_any A m c s wd B (by omega) (HRD.out.below (hb0d.mono hB)) HM.out.symm (by omega))
              clear hbd hb0d y0 y1 y2 y3 y4 z0 z1 z2 z3 z4
              refine wp_region_S (fun w' => ∃ X : WB wd.heap.size wd, w' = X.val) (by kernel_rfl) ?_
              rw [← hwd]
              clear hwd
              show wpAnyS _ _ _ _ _ (8 + 18) _ _ _
              refine takeS 8 0 18 (by kernel_rfl) (by kernel_rfl) (fun _ _ d _ _ h => by cases d <;> exact h) ⟨⟨_, Below.refl _ _⟩, rfl⟩ ?_
              simp only [List.take_succ_cons, List.take_zero, List.drop_succ_cons, List.drop_zero]
              repeat (first | go_big_quiet_skip | (go_big_quiet_want; go_big_quiet_op; go_big_quiet_on))
              refine wpQuiet_nil ?_
              show wpAnyS _ _ _ _ _ (4 + 4) _ _ _
              refine takeS 4 19 4 (by kernel_rfl) (by kernel_rfl) (fun _ _ d _ _ h => by cases d <;> exact h) ⟨⟨_, Below.refl _ _⟩, rfl⟩ ?_
              simp only [List.take_succ_cons, List.take_zero, List.drop_succ_cons, List.drop_zero]
              repeat (first | go_big_quiet_skip | (go_big_quiet_want; go_big_quiet_op; go_big_quiet_on))
              refine wpQuiet_nil ?_
              clear x0 x1
              refine oneS 3 18 (by kernel_rfl) (by decide) ?_
              simp only [List.take_succ_cons, List.take_zero, List.drop_succ_cons, List.drop_zero]
              go_wp2_with fail
              refine HCN.out.mono ?_
              clear HCN
              rintro e w3 ⟨v3, out, rfl, ho3, hcan, hb3, hl3⟩
              obtain ⟨A3, c3, rfl, x1, x2, x3⟩ := ho3.form
              have hb03 := HB0.out.trans (hb3.mono (by omega))
              have hs3 := hb3.size
              have HSM := Lib.hid (equal_any A3 A out.length c3 m c out s w3 w3.heap.size B x3 rfl (by omega) (HRD.out.below (hb03.mono hB)) HM.out.symm (by omega) (Nat.le_refl _) (by omega))
              rw [can_eq hcan, ← HA3.out] at HSM
              have HB3 := Lib.hid hb03
              have HX3 := Lib.hid hb3
              have hol : out.length ≤ 12 := by omega
              obtain ⟨q, hq⟩ : ∃ q, q = out.length := ⟨_, rfl⟩
              rw [← hq] at HSM hol ⊢
              clear hb3 hb03 ho3 hcan hl3 x1 x2 x3 hq
              go_wp2_with fail
              refine ⟨⟨WB.mk _ HX3.out, rfl⟩, ?_⟩
              refine oneS 2 23 (by kernel_rfl) (by decide) ?_
              simp only [List.take_succ_cons, List.take_zero, List.drop_succ_cons, List.drop_zero]
              go_wp2_with fail
              refine HSM.out.mono ?_
              clear HSM
              rintro e w4 ⟨rfl, hb4⟩
              have HX4 := Lib.hid (HX3.out.trans (hb4.mono (by omega)))
              have HB4 := Lib.hid (HB3.out.trans (hb4.mono (by omega)))
              clear hb4
              go_wp2_with fail
              refine ⟨⟨WB.mk _ HX4.out, rfl⟩, ?_⟩
              show wpAnyS _ _ _ _ _ (0 + 2) _ _ _
              refine takeS 0 24 2 (by kernel_rfl) (by kernel_rfl) (fun _ _ d _ _ h => by cases d <;> exact h) ⟨WB.mk _ HX4.out, rfl⟩ ?_
              simp only [List.take_succ_cons, List.take_zero, List.drop_succ_cons, List.drop_zero]
              repeat (first | go_big_quiet_skip | (go_big_quiet_want; go_big_quiet_op; go_big_quiet_on))
              refine wpQuiet_nil ?_
              refine endS (by kernel_rfl) ?_
              go_wp2_with fail
              go_meet
              case rel => exact ⟨by rw [HV.out], HB4⟩

          · as_aux_lemma =>
              have e1 : (k != 1) = true := by rw [bne_iff_ne]; exact hk1
              obtain rfl : m = 0 := by omega
              obtain ⟨wd, hwd⟩ : ∃ wd, wd = w1.drew := ⟨_, rfl⟩
              have hbd : Below w1.heap.size w1 wd := by rw [hwd]; exact (Below.refl _ _).drew
              have hsd := hbd.size
              have hb0d := HB1.out.trans (hbd.mono hs1)
              have HB0 := Lib.hid hb0d
              obtain ⟨y0, y1, y2, y3, y4⟩ := HC.out wd (hb0d.mono hB)
              have x0 : ∀ X : WB wd.heap.size wd, X.val.cell? ⟨b, 0, none⟩ = some (.int .i64 k) := fun X => (X.bel.cell (p := ⟨b, 0, none⟩) (show b < wd.heap.size by omega)).trans y0
              have x1 : ∀ X : WB wd.heap.size wd, X.val.cell? ⟨b, 1, none⟩ = some (.slice A 0 c) := fun X => (X.bel.cell (p := ⟨b, 1, none⟩) (show b < wd.heap.size by omega)).trans y1
              have HCN := Lib.hid (canon_any A 0 c s wd B (by omega) (HRD.out.below (hb0d.mono hB)) HM.out.symm (by omega))
              clear hbd hb0d y0 y1 y2 y3 y4 z0 z1 z2 z3 z4
              refine wp_region_S (fun w' => ∃ X : WB wd.heap.size wd, w' = X.val) (by kernel_rfl) ?_
              rw [← hwd]
              clear hwd
              show wpAnyS _ _ _ _ _ (8 + 18) _ _ _
              refine takeS 8 0 18 (by kernel_rfl) (by kernel_rfl) (fun _ _ d _ _ h => by cases d <;> exact h) ⟨⟨_, Below.refl _ _⟩, rfl⟩ ?_
              simp only [List.take_succ_cons, List.take_zero, List.drop_succ_cons, List.drop_zero]
              repeat (first | go_big_quiet_skip | (go_big_quiet_want; go_big_quiet_op; go_big_quiet_on))
              refine wpQuiet_nil ?_
              show wpAnyS _ _ _ _ _ (4 + 4) _ _ _
              refine takeS 4 19 4 (by kernel_rfl) (by kernel_rfl) (fun _ _ d _ _ h => by cases d <;> exact h) ⟨⟨_, Below.refl _ _⟩, rfl⟩ ?_
              simp only [List.take_succ_cons, List.take_zero, List.drop_succ_cons, List.drop_zero]
              repeat (first | go_big_quiet_skip | (go_big_quiet_want; go_big_quiet_op; go_big_quiet_on))
              refine wpQuiet_nil ?_
              clear x0 x1
              refine oneS 3 18 (by kernel_rfl) (by decide) ?_
              simp only [List.take_succ_cons, List.take_zero, List.drop_succ_cons, List.drop_zero]
              go_wp2_with fail
              refine HCN.out.mono ?_
              clear HCN
              rintro e w3 ⟨v3, out, rfl, ho3, hcan, hb3, hl3⟩
              obtain ⟨A3, c3, rfl, x1, x2, x3⟩ := ho3.form
              have hb03 := HB0.out.trans (hb3.mono (by omega))
              have hs3 := hb3.size
              have HSM := Lib.hid (equal_any A3 A out.length c3 0 c out s w3 w3.heap.size B x3 rfl (by omega) (HRD.out.below (hb03.mono hB)) HM.out.symm (by omega) (Nat.le_refl _) (by omega))
              rw [can_eq hcan, ← HA3.out] at HSM
              have HB3 := Lib.hid hb03
              have HX3 := Lib.hid hb3
              have hol : out.length ≤ 12 := by omega
              obtain ⟨q, hq⟩ : ∃ q, q = out.length := ⟨_, rfl⟩
              rw [← hq] at HSM hol ⊢
              clear hb3 hb03 ho3 hcan hl3 x1 x2 x3 hq
              go_wp2_with fail
              refine ⟨⟨WB.mk _ HX3.out, rfl⟩, ?_⟩
              refine oneS 2 23 (by kernel_rfl) (by decide) ?_
              simp only [List.take_succ_cons, List.take_zero, List.drop_succ_cons, List.drop_zero]
              go_wp2_with fail
              refine HSM.out.mono ?_
              clear HSM
              rintro e w4 ⟨rfl, hb4⟩
              have HX4 := Lib.hid (HX3.out.trans (hb4.mono (by omega)))
              have HB4 := Lib.hid (HB3.out.trans (hb4.mono (by omega)))
              clear hb4
              go_wp2_with fail
              refine ⟨⟨WB.mk _ HX4.out, rfl⟩, ?_⟩
              show wpAnyS _ _ _ _ _ (0 + 2) _ _ _
              refine takeS 0 24 2 (by kernel_rfl) (by kernel_rfl) (fun _ _ d _ _ h => by cases d <;> exact h) ⟨WB.mk _ HX4.out, rfl⟩ ?_
              simp only [List.take_succ_cons, List.take_zero, List.drop_succ_cons, List.drop_zero]
              repeat (first | go_big_quiet_skip | (go_big_quiet_want; go_big_quiet_op; go_big_quiet_on))
              refine wpQuiet_nil ?_
              refine endS (by kernel_rfl) ?_
              go_wp2_with fail
              go_meet
              case rel => exact ⟨by rw [HV.out], HB4⟩
    case rest =>
      obtain ⟨rfl, HB4⟩ := hcut
      obtain ⟨w4, rfl⟩ : ∃ w4 : World, w4 = wc := ⟨_, rfl⟩
      have hs4 := HB4.out.size
      clear z0 z1 z2 z3 z4
      obtain ⟨z0, z1, z2, z3, z4⟩ := HC.out w4 (HB4.out.mono hB)
      cases sb with
      | true =>
        as_aux_lemma =>
          have HE : Hid (res = false) := Lib.hid (by rw [HLP.out]; simp)
          go_wp2_with fail
          go_ret
          exact ⟨ret_eq (by rw [HE.out]; rfl), HB4.out⟩
      | false =>
      go_upto_if 56 with (fail)
      go_cut [] from 57 (fun wx => Hid (a2 = true) ∧ Hid (Below w.heap.size w wx))
      case first =>
        as_aux_lemma =>
          have HBQ : Hid (∀ q, Below w.heap.size w (w4.drewN q)) := Lib.hid (fun q => HB4.out.trans ((dn_belowP w4 q).mono (by omega)))
          have HFA : Hid (a2 = false → res = false) := Lib.hid (fun e => by rw [HLP.out, e]; simp)
          clear h1 h2 h3 h4 hkl hs hd hd30 hdec hs1 hs4 HLP HSUM HIH HKS HRD HK HM HN HC HSB hb hB
          by_cases k6 : k = 6
          · subst k6
            obtain ⟨t, ht⟩ : ∃ t, max mn 1 = t := ⟨_, rfl⟩
            have HTT := Lib.hid ht
            by_cases q1 : mn < 0
            · as_aux_lemma =>
                have HE : Hid (res = false) := Lib.hid (HFA.out (by rw [HA2.out]; unfold tmsOk; rw [if_pos rfl]; simp; have := HTT.out; omega))
                have c1 : decide (mn < 0) = true := decide_eq_true q1
                clear HTT HA2 HFA 
                clear q1
                go_wp2_with fail
                go_quiet (fail)
                have HB6 := Lib.hid (HBQ.out nq)
                go_wp2_with fail
                go_ret
                exact ⟨ret_eq (by rw [HE.out]; rfl), HB6.out⟩
            · by_cases q2 : 50 < mn
              · as_aux_lemma =>
                  have HE : Hid (res = false) := Lib.hid (HFA.out (by rw [HA2.out]; unfold tmsOk; rw [if_pos rfl]; simp; have := HTT.out; omega))
                  have c1 : decide (mn < 0) = false := decide_eq_false q1
                  have c2 : decide (50 < mn) = true := decide_eq_true q2
                  clear HTT HA2 HFA 
                  clear q1 q2
                  go_wp2_with fail
                  go_quiet (fail)
                  have HB6 := Lib.hid (HBQ.out nq)
                  go_wp2_with fail
                  go_ret
                  exact ⟨ret_eq (by rw [HE.out]; rfl), HB6.out⟩
              · by_cases q3 : mx = -1
                · as_aux_lemma =>
                    have HT2 : Hid (a2 = true) := Lib.hid (by rw [HA2.out]; unfold tmsOk; rw [if_pos rfl]; simp; have := HTT.out; omega)
                    have c1 : decide (mn < 0) = false := decide_eq_false q1
                    have c2 : decide (50 < mn) = false := decide_eq_false q2
                    clear HTT HA2 HFA 
                    clear q1 q2
                    subst q3
                    go_wp2_with fail
                    go_quiet (fail)
                    have HB6 := Lib.hid (HBQ.out nq)
                    go_wp2_with fail
                    go_meet
                    case rel => exact ⟨HT2, HB6⟩
                · by_cases q4 : mx < t
                  · as_aux_lemma =>
                      have HE : Hid (res = false) := Lib.hid (HFA.out (by rw [HA2.out]; unfold tmsOk; rw [if_pos rfl]; simp; have := HTT.out; omega))
                      have c1 : decide (mn < 0) = false := decide_eq_false q1
                      have c2 : decide (50 < mn) = false := decide_eq_false q2
                      have c3 : (mx != -1) = true := by rw [bne_iff_ne]; exact q3
                      have c4 : decide (mx < t) = true := decide_eq_true q4
                      clear HTT HA2 HFA 
                      clear q1 q2 q3 q4
                      go_wp2_with fail
                      go_quiet (fail)
                      have HB6 := Lib.hid (HBQ.out nq)
                      go_wp2_with fail
                      go_ret
                      exact ⟨ret_eq (by rw [HE.out]; rfl), HB6.out⟩
                  · by_cases q5 : 50 < mx
                    · as_aux_lemma =>
                        have HE : Hid (res = false) := Lib.hid (HFA.out (by rw [HA2.out]; unfold tmsOk; rw [if_pos rfl]; simp; have := HTT.out; omega))
                        have c1 : decide (mn < 0) = false := decide_eq_false q1
                        have c2 : decide (50 < mn) = false := decide_eq_false q2
                        have c3 : (mx != -1) = true := by rw [bne_iff_ne]; exact q3
                        have c4 : decide (mx < t) = false := decide_eq_false q4
                        have c5 : decide (50 < mx) = true := decide_eq_true q5
                        clear HTT HA2 HFA 
                        clear q1 q2 q3 q4 q5
                        go_wp2_with fail
                        go_quiet (fail)
                        have HB6 := Lib.hid (HBQ.out nq)
                        go_wp2_with fail
                        go_ret
                        exact ⟨ret_eq (by rw [HE.out]; rfl), HB6.out⟩
                    · as_aux_lemma =>
                        have HT2 : Hid (a2 = true) := Lib.hid (by rw [HA2.out]; unfold tmsOk; rw [if_pos rfl]; simp; have := HTT.out; omega)
                        have c1 : decide (mn < 0) = false := decide_eq_false q1
                        have c2 : decide (50 < mn) = false := decide_eq_false q2
                        have c3 : (mx != -1) = true := by rw [bne_iff_ne]; exact q3
                        have c4 : decide (mx < t) = false := decide_eq_false q4
                        have c5 : decide (50 < mx) = false := decide_eq_false q5
                        clear HTT HA2 HFA 
                        clear q1 q2 q3 q4 q5
                        go_wp2_with fail
                        go_quiet (fail)
                        have HB6 := Lib.hid (HBQ.out nq)
                        go_wp2_with fail
                        go_meet
                        case rel => exact ⟨HT2, HB6⟩
          · have c0 : (k != 6) = true := by rw [bne_iff_ne]; exact k6
            by_cases q1 : mn = 0
            · by_cases q2 : mx = 0
              · as_aux_lemma =>
                  have HT2 : Hid (a2 = true) := Lib.hid (by rw [HA2.out]; unfold tmsOk; rw [if_neg k6]; simp [q1, q2])
                  subst q1 q2
                  go_wp2_with fail
                  go_meet
                  case rel => exact ⟨HT2, HB4⟩
              · as_aux_lemma =>
                  have HE : Hid (res = false) := Lib.hid (HFA.out (by rw [HA2.out]; unfold tmsOk; rw [if_neg k6]; simp [q1, q2]))
                  have c2 : (mx != 0) = true := by rw [bne_iff_ne]; exact q2
                  subst q1
                  go_wp2_with fail
                  go_ret
                  exact ⟨ret_eq (by rw [HE.out]; rfl), HB4.out⟩
            · as_aux_lemma =>
                have HE : Hid (res = false) := Lib.hid (HFA.out (by rw [HA2.out]; unfold tmsOk; rw [if_neg k6]; simp [q1]))
                have c1 : (mn != 0) = true := by rw [bne_iff_ne]; exact q1
                go_wp2_with fail
                go_ret
                exact ⟨ret_eq (by rw [HE.out]; rfl), HB4.out⟩
      case rest =>
        obtain ⟨HT2, HB5⟩ := hcut
        obtain ⟨w5, rfl⟩ : ∃ w5 : World, w5 = wc := ⟨_, rfl⟩
        have hs5 := HB5.out.size
        clear z0 z1 z2 z3 z4
        obtain ⟨z0, z1, z2, z3, z4⟩ := HC.out w5 (HB5.out.mono hB)
        as_aux_lemma =>
          go_wp2_with fail
          go_loopw [112, 6] (fun i u wr => ∃ j : Nat, j ≤ n ∧ i = .int .i64 (j : Int) ∧ Hid (shpL (d + 1) (ks.take j) = true) ∧ Hid (Below w.heap.size w wr)) (fun i _ _ => n - (intOf i).toNat)
          case atStart => exact ⟨0, Nat.zero_le _, rfl, rfl, HB5.out⟩
          case round =>
            as_aux_lemma =>
              obtain ⟨j, hj, rfl, HJ, HBJ⟩ := hrel
              have hsj := HBJ.out.size
              by_cases hlt : j < n
              · as_aux_lemma =>
                  obtain ⟨x, hx⟩ : ∃ x, ks[j]? = some x := ⟨_, List.getElem?_eq_getElem (by rw [← HN.out]; exact hlt)⟩
                  obtain ⟨kb, off, hAA, hkb, hkc⟩ := HKS.out (by omega)
                  obtain ⟨u, zu, hu⟩ := hkc j x hx
                  have zj := ((HBJ.out.mono hB).cell (p := ⟨kb, off + j, none⟩) hkb).trans zu
                  obtain ⟨up, rfl⟩ := hu.ptr
                  have HI := Lib.hid (HIH.out x (List.mem_of_getElem? hx) (.pointer up) wr (by omega) (RxB.below hu (HBJ.out.mono hB)))
                  have HS := Lib.hid (HSUM.out j x hx)
                  obtain ⟨r, hr⟩ : ∃ r, r = shp (d + 1) x := ⟨_, rfl⟩
                  rw [← hr] at HI HS
                  obtain ⟨wo, rfl⟩ : ∃ wo : World, wo = wr := ⟨_, rfl⟩
                  clear hkc zu hu hx hr
                  subst hAA
                  go_wp2_with fail
                  refine HI.out.mono ?_
                  clear HI
                  rintro e w6 ⟨rfl, hb6⟩
                  have HB6 := Lib.hid (HBJ.out.trans (hb6.mono (by omega)))
                  clear hb6
                  cases r with
                  | false =>
                    as_aux_lemma =>
                      have HEF : Hid (res = false) := Lib.hid (by rw [HLP.out, shpL_no (i := j + 1) (by rw [HS.out]; simp)]; simp)
                      go_wp2_with fail
                      go_ret
                      exact ⟨ret_eq (by rw [HEF.out]; rfl), HB6.out⟩
                  | true =>
                    as_aux_lemma =>
                      have HT := Lib.hid (show shpL (d + 1) (ks.take (j + 1)) = true by rw [HS.out, HJ.out]; rfl)
                      go_wp2_with fail
                      go_roundw
                      case rel => exact ⟨j + 1, by omega, by go_num, HT, HB6⟩
                      case measure => simp [intOf]; omega
              · as_aux_lemma =>
                  obtain rfl : j = n := by omega
                  have HEF : Hid (res = true) := Lib.hid (by
                    rw [HLP.out]
                    have := HJ.out
                    rw [List.take_of_length_le (by rw [← HN.out]; exact Nat.le_refl _)] at this
                    rw [this, HT2.out]; rfl)
                  go_wp2_with fail
                  go_ret
                  exact ⟨ret_eq (by rw [HEF.out]; rfl), HBJ.out⟩
  · as_aux_lemma =>
      have HE : Hid (shp d (.node k s mn mx ks) = false) := Lib.hid (by rw [shp]; simp [hd30])
      have hdec : decide ((30 : Int) < (d : Int)) = true := decide_eq_true (by omega)
      clear hT h5 h6 ih
      go_enter Tryz.func14, Tryz.ntmps14
      go_wp2_with fail
      go_quiet (fail)
      go_wp2_with fail
      go_ret
      exact ⟨ret_eq (by rw [HE.out]; rfl), dn_belowP _ _⟩
end Go.Proofs.YtaachamblagbhaaGreatDoor
