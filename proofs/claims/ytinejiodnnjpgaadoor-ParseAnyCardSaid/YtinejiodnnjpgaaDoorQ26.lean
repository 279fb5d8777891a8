/- Acts that fit: the document's actOk. · The document's Fits. -/
import Derived.Test.YtinejiodnnjpgaaDoorQ8
import Derived.Test.YtinejiodnnjpgaaDoorQ2
import Derived.Test.YtinejiodnnjpgaaDoorQ6
import Derived.Deep.QuietTactic
import Derived.BigQuiet
import Derived.Test.YtinejiodnnjpgaaDoorQ18
import Derived.Test.YtinejiodnnjpgaaDoorQ7
import Derived.Test.YtinejiodnnjpgaaDoorQ13
import Derived.StillTail
namespace Go.Proofs.YtinejiodnnjpgaaDoor
open Go.RowKit BigFrame
set_option linter.unusedVariables false
set_option linter.unusedSimpArgs false
set_option maxRecDepth 100000

theorem abox' (w : World) (k to : Int) : Below w.heap.size w (w.alloc (.cells #[.int .i64 k, .int .i64 to] 82)) := (Below.refl _ _).alloc (Nat.le_refl _) _
set_option maxHeartbeats 4000000 in
theorem ract_any (k to : Int) (fin : Bool) (n np : Int) (w : World) :
    Calls Tryd.prog 33 #[.agg #[.int .i64 k, .int .i64 to], .bool fin, .int .i64 n, .int .i64 np] w fun e w' => e = .returned (.bool (decide (fitA (k, to) fin n np))) ∧ Below w.heap.size w w' := by
  have HB := Lib.hid (abox' w k to)
  have HF : Hid (decide (fitA (k, to) fin n np) = (decide (k = 0) && decide (to = 0) || decide (k = 3) && decide (to = 0) && fin || decide (k = 1) && decide (0 ≤ to) && decide (to < n) && !fin || decide (k = 2) && decide (0 ≤ to) && decide (to < np))) := Lib.hid (by
    rw [Bool.eq_iff_iff, decide_eq_true_iff]
    simp [fitA, and_assoc, or_assoc])
  rw [HF.out]
  clear HF
  by_cases k0 : k = 0
  · as_aux_lemma =>
      subst k0
      simp only [Int.reduceEq, decide_true, decide_false, Bool.true_and, Bool.false_and, Bool.or_false, Bool.false_or]
      cases fin
      all_goals
        by_cases a0 : 0 ≤ to
        all_goals
          by_cases a1 : to < n
          all_goals
            by_cases a2 : to < np
            all_goals
              by_cases a3 : to = 0
              all_goals
                try (exfalso; omega)
              all_goals try subst a3
              all_goals
                go_enter Tryd.func33, Tryd.ntmps33
                go_wp2_with fail
                go_ret
                exact ⟨ret_eq (by simp [*] <;> omega), HB.out⟩
  by_cases k1 : k = 1
  · as_aux_lemma =>
      subst k1
      simp only [Int.reduceEq, decide_true, decide_false, Bool.true_and, Bool.false_and, Bool.or_false, Bool.false_or]
      cases fin
      all_goals
        by_cases a0 : 0 ≤ to
        all_goals
          by_cases a1 : to < n
          all_goals
            by_cases a2 : to < np
            all_goals
              by_cases a3 : to = 0
              all_goals
                try (exfalso; omega)
              all_goals try subst a3
              all_goals
                go_enter Tryd.func33, Tryd.ntmps33
                go_wp2_with fail
                go_ret
                exact ⟨ret_eq (by simp [*] <;> omega), HB.out⟩
  by_cases k2 : k = 2
  · as_aux_lemma =>
      subst k2
      simp only [Int.reduceEq, decide_true, decide_false, Bool.true_and, Bool.false_and, Bool.or_false, Bool.false_or]
      cases fin
      all_goals
        by_cases a0 : 0 ≤ to
        all_goals
          by_cases a1 : to < n
          all_goals
            by_cases a2 : to < np
            all_goals
              by_cases a3 : to = 0
              all_goals
                try (exfalso; omega)
              all_goals try subst a3
              all_goals
                go_enter Tryd.func33, Tryd.ntmps33
                go_wp2_with fail
                go_ret
                exact ⟨ret_eq (by simp [*] <;> omega), HB.out⟩
  by_cases k3 : k = 3
  · as_aux_lemma =>
      subst k3
      simp only [Int.reduceEq, decide_true, decide_false, Bool.true_and, Bool.false_and, Bool.or_false, Bool.false_or]
      cases fin
      all_goals
        by_cases a0 : 0 ≤ to
        all_goals
          by_cases a1 : to < n
          all_goals
            by_cases a2 : to < np
            all_goals
              by_cases a3 : to = 0
              all_goals
                try (exfalso; omega)
              all_goals try subst a3
              all_goals
                go_enter Tryd.func33, Tryd.ntmps33
                go_wp2_with fail
                go_ret
                exact ⟨ret_eq (by simp [*] <;> omega), HB.out⟩
  as_aux_lemma =>
    have e0 : (k == 0) = false := by simpa using k0
    have e1 : (k == 1) = false := by simpa using k1
    have e2 : (k == 2) = false := by simpa using k2
    have e3 : (k == 3) = false := by simpa using k3
    go_enter Tryd.func33, Tryd.ntmps33
    go_wp2_with fail
    go_ret
    exact ⟨ret_eq (by simp [*]), HB.out⟩
end Go.Proofs.YtinejiodnnjpgaaDoor
namespace Go.Proofs.YtinejiodnnjpgaaDoor
open Go.RowKit BigFrame
set_option linter.unusedVariables false
set_option linter.unusedSimpArgs false
set_option maxRecDepth 100000

set_option maxHeartbeats 4000000 in
theorem rfits_any (G : Gr) (Ap Al As : Option Addr) (np cp nl cl ns cs : Nat) (T : Tb) (Aa : Option Addr) (na ca : Nat) (Ag : Option Addr) (ng cg : Nat) (vc : Value) (w : World) (B : Nat) (hB : B ≤ w.heap.size) (hG : GrIn w B G Ap Al As np cp nl cl ns cs) (hT : TbIn w B T Aa na ca Ag ng cg) :
    Calls Tryd.prog 16 #[.agg #[.int .i64 G.terms, .int .i64 G.names, .int .i64 G.start, .slice Ap np cp, .slice Al nl cl, .slice As ns cs], .agg #[.slice Aa na ca, .slice Ag ng cg, vc]] w fun e w' => e = .returned (.bool (fitB G T)) ∧ Below w.heap.size w w' := by
  obtain ⟨hb0, hs0, gb, hb⟩ := gtbox w G Ap Al As np cp nl cl ns cs (.slice Aa na ca) (.slice Ag ng cg) vc
  obtain ⟨hpl, hpm⟩ := hG.p.len
  have HPL := Lib.hid hpl
  unfold maxLen at hpm
  obtain ⟨hla, hca, hma⟩ := shL_len hT.a
  obtain ⟨hlg, hcg, hmg⟩ := shL_len hT.g
  have z0 := hb.cell (i := 0) rfl
  have z1 := hb.cell (i := 1) rfl
  have hC := rok_any G Ap Al As np cp nl cl ns cs _ B (by rw [hs0]; omega) (hG.below (hb0.mono hB))
  rw [hs0] at hC
  have HC := Lib.hid hC; have HB0 := Lib.hid hb0; have HG := Lib.hid (hG.below (hb0.mono hB)); have HT := Lib.hid (hT.below (hb0.mono hB)); have HS0 := Lib.hid hs0; have HGB := Lib.hid gb; have HTB := Lib.hid hb; have HLA := Lib.hid hla; have HLG := Lib.hid hlg
  unfold maxLen at hma hmg
  clear hC hb0 hG hT gb hb hla hlg hs0 hpl
  go_enter Tryd.func16, Tryd.ntmps16
  go_wp2_with fail
  generalize (w.alloc (.cells #[.int .i64 G.terms, .int .i64 G.names, .int .i64 G.start, .slice Ap np cp, .slice Al nl cl, .slice As ns cs] 34)).alloc (.cells #[.slice Aa na ca, .slice Ag ng cg, vc] 47) = W0 at *
  refine HC.out.mono ?_
  rintro e w1 ⟨rfl, hb1⟩
  have z2 := (hb1.cell (p := ⟨w.heap.size + 1, 1, none⟩) (by show w.heap.size + 1 < _; omega)).trans z1
  have z3 := (hb1.cell (p := ⟨w.heap.size + 1, 0, none⟩) (by show w.heap.size + 1 < _; omega)).trans z0
  have HB1 := Lib.hid hb1
  have hfin : Below w.heap.size w w1 := HB0.out.trans (hb1.mono (by omega))
  have HFIN := Lib.hid hfin
  clear hb1 z0 z1 hfin HC
  by_cases hk : GOk G
  rotate_left
  · as_aux_lemma =>
      rw [okB_f hk]
      have HN := Lib.hid (fitB_f (G := G) (T := T) (fun h => hk h.ok))
      clear hk
      go_wp2
      go_ret
      exact ⟨ret_eq (by rw [HN.out]; rfl), HFIN.out⟩
  rw [okB_t hk]
  by_cases q1 : na < 1
  · as_aux_lemma =>
      have HN := Lib.hid (fitB_f (G := G) (T := T) (fun h => by have := h.n0; rw [HLA.out] at this; omega))
      clear hk
      go_wp2
      go_ret
      exact ⟨ret_eq (by rw [HN.out]; rfl), HFIN.out⟩
  by_cases q2 : 2000 < na
  · as_aux_lemma =>
      have HN := Lib.hid (fitB_f (G := G) (T := T) (fun h => by have := h.n1; rw [HLA.out] at this; omega))
      clear hk
      go_wp2
      go_ret
      exact ⟨ret_eq (by rw [HN.out]; rfl), HFIN.out⟩
  by_cases q3 : ng = na
  rotate_left
  · as_aux_lemma =>
      have HN := Lib.hid (fitB_f (G := G) (T := T) (fun h => q3 (by have := h.gl; rw [HLA.out, HLG.out] at this; exact this)))
      have d1 : ((ng : Int) != (na : Int)) = true := by simp; omega
      clear hk q3
      go_wp2
      go_ret
      exact ⟨ret_eq (by rw [HN.out]; rfl), HFIN.out⟩
  subst q3
  have hk1 := hk.t0; have hk2 := hk.t1; have hk3 := hk.n0; have hk4 := hk.n1
  have HK := Lib.hid hk
  clear hk
  go_wp2_with fail
  go_loopw [7] (fun i wr => ∃ (j : Nat), j ≤ ng ∧ i = .int .i64 (j : Int) ∧ Hid (∀ k, k < j → RowFits G T k) ∧ Hid (Below (w.heap.size + 2) W0 wr)) (fun i _ => ng - (intOf i).toNat)
  case atStart => exact ⟨0, Nat.zero_le _, rfl, fun k h => absurd h (Nat.not_lt_zero _), HB1⟩
  case round =>
    as_aux_lemma =>
      obtain ⟨j, hj, rfl, HR, HB⟩ := hrel
      have hlow : ∀ b, b < w.heap.size + 2 → ∀ o, wr.cell? ⟨b, o, none⟩ = W0.cell? ⟨b, o, none⟩ := fun b hb o => HB.out.cell (p := ⟨b, o, none⟩) hb
      have z0 := (hlow (w.heap.size + 1) (by omega) 0).trans (HTB.out.cell (i := 0) rfl)
      have z1 := (hlow (w.heap.size + 1) (by omega) 1).trans (HTB.out.cell (i := 1) rfl)
      have c0 := (hlow w.heap.size (by omega) 0).trans HGB.out.c0
      have c1 := (hlow w.heap.size (by omega) 1).trans HGB.out.c1
      have c3 := (hlow w.heap.size (by omega) 3).trans HGB.out.c3
      by_cases hlt : j < ng
      · as_aux_lemma =>
          have ta := HT.out.a
          have tg := HT.out.g
          obtain ⟨ab, ao, rfl, hab, hac⟩ := ta.at_ (by omega)
          obtain ⟨gb, go, rfl, hgb, hgc⟩ := tg.at_ (by omega)
          obtain ⟨A1, n1, cc1, x1, x2, x3, x4, x5⟩ := hac j hlt
          obtain ⟨A2, n2, cc2, y1, y2, y3, y4, y5⟩ := hgc j hlt
          have x1' := (hlow ab (by omega) (ao + j)).trans x1
          have y1' := (hlow gb (by omega) (go + j)).trans y1
          have HX2 := Lib.hid x2; have HX5 := Lib.hid x5; have HY2 := Lib.hid y2; have HY5 := Lib.hid y5
          unfold maxLen at x4 y4
          have HY1 := Lib.hid y1
          have HX1 := Lib.hid x1
          clear ta tg hac hgc x1 y1 x2 x5 y2 y5 hlow HT
          by_cases e1 : (n1 : Int) = G.terms + 1
          rotate_left
          · as_aux_lemma =>
              have HN := Lib.hid (fitB_f (G := G) (T := T) (fun h => e1 (by have := (h.row j (by rw [HLA.out]; exact hlt)).al; rw [HX2.out] at this; exact this)))
              have d1 : ((n1 : Int) != G.terms + 1) = true := by simpa using e1
              have HF : Hid (Below w.heap.size w wr) := Lib.hid (HB0.out.trans (HB.out.mono (by omega)))
              clear e1
              go_wp2_with fail
              go_quiet (fail)
              go_wp2_with fail
              go_ret
              exact ⟨ret_eq (by rw [HN.out]; rfl), HF.out.trans (bel_dn _ _ _)⟩
          have d1 : ((n1 : Int) != G.terms + 1) = false := by simpa using e1
          by_cases e2 : (n2 : Int) = G.names
          rotate_left
          · as_aux_lemma =>
              have HN := Lib.hid (fitB_f (G := G) (T := T) (fun h => e2 (by have := (h.row j (by rw [HLA.out]; exact hlt)).gl; rw [HY2.out] at this; exact this)))
              have d2 : ((n2 : Int) != G.names) = true := by simpa using e2
              have HF : Hid (Below w.heap.size w wr) := Lib.hid (HB0.out.trans (HB.out.mono (by omega)))
              clear e1 e2
              go_wp2_with fail
              go_quiet (fail)
              go_wp2_with fail
              go_ret
              exact ⟨ret_eq (by rw [HN.out]; rfl), HF.out.trans (bel_dn _ _ _)⟩
          have d2 : ((n2 : Int) != G.names) = false := by simpa using e2
          have HE1 := Lib.hid e1; have HE2 := Lib.hid e2
          clear e1 e2
          go_wp2_with fail
          go_quiet (fail)
          rename_i nq _ _
          obtain ⟨w2, hw2⟩ : ∃ w2, w2 = wr.drewN nq := ⟨_, rfl⟩
          have HB2 : Hid (Below (w.heap.size + 2) W0 w2) := Lib.hid (by rw [hw2]; exact HB.out.trans (bel_dn _ _ _))
          have zz0 : w2.cell? ⟨w.heap.size + 1, 0, none⟩ = some (.slice (some ⟨ab, ao, none⟩) ng ca) := by rw [hw2]; exact z0
          have zz1 : w2.cell? ⟨ab, ao + j, none⟩ = some (.slice A1 n1 cc1) := by rw [hw2]; exact x1'
          rw [← hw2]
          clear hw2 z0 z1 c0 c1 c3 d1 d2 x1' y1'
          go_wp2_with fail
          go_loopw [8] (fun i wr => ∃ (k : Nat), k ≤ n1 ∧ i = .int .i64 (k : Int) ∧ Hid (∀ k', k' < k → fitA ((T.acts.getD j []).getD k' (0, 0)) (decide ((k' : Int) = G.terms)) T.acts.length G.prods.length) ∧ Hid (Below (w.heap.size + 2) W0 wr)) (fun i _ => n1 - (intOf i).toNat)
          case atStart => exact ⟨0, Nat.zero_le _, rfl, fun k h => absurd h (Nat.not_lt_zero _), HB2⟩
          case round =>
            as_aux_lemma =>
              obtain ⟨k, hkk, rfl, HFt, HB3⟩ := hrel
              have hlow : ∀ b, b < w.heap.size + 2 → ∀ o, wr.cell? ⟨b, o, none⟩ = W0.cell? ⟨b, o, none⟩ := fun b hb o => HB3.out.cell (p := ⟨b, o, none⟩) hb
              have z0 := (hlow (w.heap.size + 1) (by omega) 0).trans (HTB.out.cell (i := 0) rfl)
              have z1 := (hlow (w.heap.size + 1) (by omega) 1).trans (HTB.out.cell (i := 1) rfl)
              have c0 := (hlow w.heap.size (by omega) 0).trans HGB.out.c0
              have c3 := (hlow w.heap.size (by omega) 3).trans HGB.out.c3
              by_cases hlk : k < n1
              · as_aux_lemma =>
                  have rx := HX5.out
                  obtain ⟨rb, ro, rfl, hrb, hrc⟩ := rx.at_ (by omega)
                  obtain ⟨v1, v2⟩ := hrc k hlk
                  have v1' := (hlow rb (by omega) (ro + k * 2)).trans v1
                  have v2' := (hlow rb (by omega) (ro + k * 2 + 1)).trans v2
                  have hwz : w.heap.size + 2 ≤ wr.heap.size := by have := HB3.out.size; have := HS0.out; omega
                  have hlow2 := hlow
                  clear rx hrc v1 v2 hlow
                  obtain ⟨kd, hkd⟩ : ∃ x, x = ((T.acts.getD j []).getD k (0, 0)).1 := ⟨_, rfl⟩
                  obtain ⟨to, hto⟩ : ∃ x, x = ((T.acts.getD j []).getD k (0, 0)).2 := ⟨_, rfl⟩
                  rw [← hkd] at v1'
                  rw [← hto] at v2'
                  have HKD := Lib.hid (show (T.acts.getD j []).getD k (0, 0) = (kd, to) by rw [hkd, hto])
                  clear hkd hto
                  have hte : decide ((k : Int) ≤ G.terms) = true := decide_eq_true (by have := HE1.out; omega)
                  have hx1' := (hlow2 ab (by omega) (ao + j)).trans HX1.out
                  obtain ⟨w4, hw4⟩ : ∃ w4, w4 = wr.drew := ⟨_, rfl⟩
                  have HBA : Hid (Below (w.heap.size + 2) W0 w4) := Lib.hid (by rw [hw4]; exact HB3.out.trans ⟨rfl, rfl, rfl, Nat.le_refl _, fun _ _ => rfl⟩)
                  have HWZ := Lib.hid (show w.heap.size + 2 ≤ w4.heap.size by rw [hw4]; exact hwz)
                  have hcl : ∀ p, w4.cell? p = wr.cell? p := by intro p; rw [hw4]; rfl
                  have s0 := (hcl _).trans z0
                  have s1 := (hcl _).trans hx1'
                  have s2 := (hcl _).trans v1'
                  have s3 := (hcl _).trans v2'
                  have s4 := (hcl _).trans c0
                  have s5 := (hcl _).trans c3
                  clear hwz hcl hlow2 hx1'
                  go_wp2_with fail
                  refine wp_region_still_tail 16 (by kernel_rfl) (by kernel_rfl) ?_
                  simp only [List.take_succ_cons, List.take_zero, List.drop_succ_cons, List.drop_zero]
                  change wpStill _ _ wr.drew (fun a' => wpList _ _ _ _ a' wr.drew) _ _
                  rw [← hw4]
                  clear hw4 z0 z1 c0 c3 v1' v2'
                  refine wpStill_of_quiet _ _ ?_
                  repeat (first | go_big_quiet_skip | (go_big_quiet_want; go_big_quiet_op; go_big_quiet_on))
                  refine wpQuiet_nil ?_
                  go_wp2_with fail
                  refine (ract_any kd to _ _ _ _).mono ?_
                  rintro e w5 ⟨rfl, hb5⟩
                  have HB5 : Hid (Below (w.heap.size + 2) W0 w5) := Lib.hid (HBA.out.trans (hb5.mono HWZ.out))
                  clear hb5
                  by_cases hfit : fitA (kd, to) (decide ((k : Int) = G.terms)) (ng : Int) (np : Int)
                  · as_aux_lemma =>
                      have hd : decide (fitA (kd, to) ((k : Int) == G.terms) (ng : Int) (np : Int)) = true := decide_eq_true hfit
                      have HF2 : Hid (∀ k', k' < k + 1 → fitA ((T.acts.getD j []).getD k' (0, 0)) (decide ((k' : Int) = G.terms)) T.acts.length G.prods.length) := Lib.hid (fun k' hk' => by
                        by_cases q : k' < k
                        · exact HFt.out k' q
                        · obtain rfl : k' = k := by omega
                          rw [HKD.out, HLA.out, HPL.out]
                          exact hfit)
                      clear hfit
                      rw [hd]
                      go_wp2
                      go_roundw
                      case rel => exact ⟨k + 1, by omega, by go_num, HF2, HB5⟩
                      case measure => simp [intOf]; omega
                  · as_aux_lemma =>
                      have hd : decide (fitA (kd, to) ((k : Int) == G.terms) (ng : Int) (np : Int)) = false := decide_eq_false hfit
                      have HN := Lib.hid (fitB_f (G := G) (T := T) (fun h => hfit (by
                        have h1 := h.row j (by rw [HLA.out]; exact hlt)
                        have h2 := h1.a k _ (List.getElem?_eq_getElem (by rw [HX2.out]; exact hlk))
                        have h3 : (T.acts.getD j [])[k]'(by rw [HX2.out]; exact hlk) = (kd, to) := (get_getD (by rw [HX2.out]; exact hlk)).trans HKD.out
                        rw [h3, HLA.out, HPL.out] at h2
                        exact h2)))
                      have HF : Hid (Below w.heap.size w w5) := Lib.hid (HB0.out.trans (HB5.out.mono (by omega)))
                      clear hfit
                      rw [hd]
                      go_wp2
                      go_ret
                      exact ⟨ret_eq (by rw [HN.out]; rfl), HF.out⟩
              · as_aux_lemma =>
                  have hke : k = n1 := by omega
                  subst hke
                  have ry := HY5.out
                  have y1' := (hlow gb (by omega) (go + j)).trans HY1.out
                  have hte : decide ((k : Int) ≤ G.terms) = false := decide_eq_false (by have := HE1.out; omega)
                  clear hlow
                  go_wp2_with fail
                  obtain ⟨wo, rfl⟩ : ∃ wo : World, wo = wr := ⟨_, rfl⟩
                  go_loopw [9] (fun i wr => ∃ (m : Nat), m ≤ n2 ∧ i = .int .i64 (m : Int) ∧ Hid (∀ k', k' < m → -1 ≤ nth (T.gotos.getD j []) k' ∧ nth (T.gotos.getD j []) k' < T.acts.length) ∧ Hid (Below (w.heap.size + 2) W0 wr)) (fun i _ => n2 - (intOf i).toNat)
                  case atStart => exact ⟨0, Nat.zero_le _, rfl, fun k h => absurd h (Nat.not_lt_zero _), HB3⟩
                  case round =>
                    as_aux_lemma =>
                      obtain ⟨m, hm, rfl, HGt, HB4⟩ := hrel
                      have hlow4 : ∀ b, b < w.heap.size + 2 → ∀ o, wr.cell? ⟨b, o, none⟩ = W0.cell? ⟨b, o, none⟩ := fun b hb o => HB4.out.cell (p := ⟨b, o, none⟩) hb
                      have p1 := (hlow4 (w.heap.size + 1) (by omega) 1).trans (HTB.out.cell (i := 1) rfl)
                      have p2 := (hlow4 w.heap.size (by omega) 1).trans HGB.out.c1
                      have p3 := (hlow4 gb (by omega) (go + j)).trans HY1.out
                      have hnm := HE2.out
                      by_cases hlm : m < n2
                      · as_aux_lemma =>
                          obtain ⟨rb, ro, rfl, hrb, hrc⟩ := ry.at_ (by rw [HY2.out]; omega)
                          have v1 := hrc m (by rw [HY2.out]; exact hlm)
                          have v1' := (HB4.out.cell (p := ⟨rb, ro + m, none⟩) (by show rb < _; omega)).trans v1
                          have htm : decide ((m : Int) < G.names) = true := decide_eq_true (by omega)
                          clear hrc v1 hlow4 hnm
                          by_cases t1 : nth (T.gotos.getD j []) m < -1
                          · as_aux_lemma =>
                              have HN := Lib.hid (fitB_f (G := G) (T := T) (fun h => by
                                have h1 := (h.row j (by rw [HLA.out]; exact hlt)).g (nth (T.gotos.getD j []) m) (by rw [nth_get (by rw [HY2.out]; exact hlm)]; exact List.getElem_mem _)
                                omega))
                              have HF : Hid (Below w.heap.size w wr) := Lib.hid (HB0.out.trans (HB4.out.mono (by omega)))
                              generalize nth (T.gotos.getD j []) m = x at *
                              have d1 : decide (x < -1) = true := decide_eq_true t1
                              go_wp2_with fail
                              go_ret
                              exact ⟨ret_eq (by rw [HN.out]; rfl), HF.out⟩
                          by_cases t2 : (ng : Int) ≤ nth (T.gotos.getD j []) m
                          · as_aux_lemma =>
                              have HN := Lib.hid (fitB_f (G := G) (T := T) (fun h => by
                                have h1 := (h.row j (by rw [HLA.out]; exact hlt)).g (nth (T.gotos.getD j []) m) (by rw [nth_get (by rw [HY2.out]; exact hlm)]; exact List.getElem_mem _)
                                rw [HLA.out] at h1
                                omega))
                              have HF : Hid (Below w.heap.size w wr) := Lib.hid (HB0.out.trans (HB4.out.mono (by omega)))
                              generalize nth (T.gotos.getD j []) m = x at *
                              have d1 : decide (x < -1) = false := decide_eq_false t1
                              have d2 : decide ((ng : Int) ≤ x) = true := decide_eq_true t2
                              go_wp2_with fail
                              go_ret
                              exact ⟨ret_eq (by rw [HN.out]; rfl), HF.out⟩
                          as_aux_lemma =>
                            have HG2 : Hid (∀ k', k' < m + 1 → -1 ≤ nth (T.gotos.getD j []) k' ∧ nth (T.gotos.getD j []) k' < T.acts.length) := Lib.hid (fun k' hk' => by
                              by_cases q : k' < m
                              · exact HGt.out k' q
                              · obtain rfl : k' = m := by omega
                                rw [HLA.out]
                                omega)
                            generalize nth (T.gotos.getD j []) m = x at v1' t1 t2
                            have d1 : decide (x < -1) = false := decide_eq_false t1
                            have d2 : decide ((ng : Int) ≤ x) = false := decide_eq_false t2
                            go_wp2_with fail
                            go_roundw
                            case rel => exact ⟨m + 1, by omega, by go_num, HG2, HB4⟩
                            case measure => simp [intOf]; omega
                      · as_aux_lemma =>
                          have hme : m = n2 := by omega
                          have htm : decide ((m : Int) < G.names) = false := decide_eq_false (by omega)
                          have hrow : RowFits G T j := ⟨by rw [HX2.out]; exact HE1.out, by rw [HY2.out]; exact HE2.out, fun k' x hx => by
                            have hlt' := (List.getElem?_eq_some_iff.1 hx).1
                            have := HFt.out k' (by rw [HX2.out] at hlt'; exact hlt')
                            rw [List.getD_eq_getElem?_getD (l := T.acts.getD j []), hx] at this
                            exact this, fun x hx => by
                            obtain ⟨i, hi, e⟩ := List.getElem_of_mem hx
                            have := HGt.out i (by rw [hme, ← HY2.out]; exact hi)
                            rw [nth_get hi, e] at this
                            exact this⟩
                          have HR2 : Hid (∀ k, k < j + 1 → RowFits G T k) := Lib.hid (fun k' hk' => by
                            by_cases q : k' < j
                            · exact HR.out k' q
                            · obtain rfl : k' = j := by omega
                              exact hrow)
                          clear hrow hme hnm hlow4
                          go_wp2
                          go_roundw
                          case rel => exact ⟨j + 1, by omega, by go_num, HR2, HB4⟩
                          case measure => simp [intOf]; omega
      · as_aux_lemma =>
          have hje : j = ng := by omega
          have HN := Lib.hid (fitB_t (G := G) (T := T) ⟨HK.out, by rw [HLA.out]; omega, by rw [HLA.out]; omega, by rw [HLA.out, HLG.out], fun i hi => HR.out i (by rw [HLA.out] at hi; omega)⟩)
          have HF : Hid (Below w.heap.size w wr) := Lib.hid (HB0.out.trans (HB.out.mono (by omega)))
          clear hje
          go_wp2
          go_ret
          exact ⟨ret_eq (by rw [HN.out]; rfl), HF.out⟩
end Go.Proofs.YtinejiodnnjpgaaDoor
