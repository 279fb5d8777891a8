/- The document's shaped: is a pattern of the right shape? -/
import Derived.Test.YtaachamblagbhaaGreatDoorQ19
namespace Go.Proofs.YtaachamblagbhaaGreatDoor
open Go.RowKit BigFrame
set_option linter.unusedVariables false
set_option linter.unusedSimpArgs false
set_option maxRecDepth 100000

/-! ### shaped -/
set_option maxHeartbeats 8000000 in
theorem rshaped_node (k : Int) (s : List Rg) (mn mx : Int) (ks : List Rx) (d : Nat) (hd : d ≤ 31) (B : Nat) (v : Value) (w : World) (hB : B ≤ w.heap.size) (hT : RxB w B v (.node k s mn mx ks)) (hs : s.length ≤ 12)
    (ih : d ≤ 30 → ∀ x ∈ ks, ∀ (u : Value) (W : World), B ≤ W.heap.size → RxB W B u x → Calls Tryz.prog 12 #[u, .int .i64 ((d : Int) + 1)] W fun e w' => e = .returned (.bool (shp (d + 1) x)) ∧ Below W.heap.size W w') :
    Calls Tryz.prog 12 #[v, .int .i64 (d : Int)] w fun e w' => e = .returned (.bool (shp d (.node k s mn mx ks))) ∧ Below w.heap.size w w' := by
  obtain ⟨b, A, c, A', c', rfl, hb, z0, z1, z2, z3, z4, h1, h2, h3, h4, h5, h6⟩ := hT.node_inv
  by_cases hd30 : d ≤ 30
  · obtain ⟨a1, ha1⟩ : ∃ a1, a1 = cntOk k ks.length := ⟨_, rfl⟩
    obtain ⟨a2, ha2⟩ : ∃ a2, a2 = tmsOk k mn mx := ⟨_, rfl⟩
    obtain ⟨a3, ha3⟩ : ∃ a3, a3 = canB 0 s := ⟨_, rfl⟩
    obtain ⟨res, hr0⟩ : ∃ res, res = shp d (.node k s mn mx ks) := ⟨_, rfl⟩
    rw [← hr0]
    have hres : res = (a1 && a2 && (a3 && (decide (k = 1) || decide (s = []))) && shpL (d + 1) ks) := by
      rw [hr0, shp, setOk, ← ha1, ← ha2, ← ha3]
      simp [hd30]
    have hkl : ks.length ≤ 9223372036854775807 := by unfold maxLen at h4; omega
    have HK : Hid (∀ W, Calls Tryz.prog 21 #[.int .i64 k, .int .i64 (ks.length : Int)] W fun e w' => e = .returned (.bool a1) ∧ w' = W) := Lib.hid (fun W => by rw [ha1]; exact kidsOk_any k ks.length W hkl)
    have HC : Hid (∀ W, Below B w W → B ≤ W.heap.size → W.cell? ⟨b, 0, none⟩ = some (.int .i64 k) ∧ W.cell? ⟨b, 1, none⟩ = some (.slice A s.length c) ∧ W.cell? ⟨b, 2, none⟩ = some (.int .i64 mn) ∧ W.cell? ⟨b, 3, none⟩ = some (.int .i64 mx) ∧ W.cell? ⟨b, 4, none⟩ = some (.slice A' ks.length c')) :=
      Lib.hid (fun W hb2 _ => ⟨(hb2.cell (p := ⟨b, 0, none⟩) hb).trans z0, (hb2.cell (p := ⟨b, 1, none⟩) hb).trans z1, (hb2.cell (p := ⟨b, 2, none⟩) hb).trans z2, (hb2.cell (p := ⟨b, 3, none⟩) hb).trans z3, (hb2.cell (p := ⟨b, 4, none⟩) hb).trans z4⟩)
    have HT2 : Hid (∀ W, W.cell? ⟨b, 0, none⟩ = some (.int .i64 k) → W.cell? ⟨b, 2, none⟩ = some (.int .i64 mn) → W.cell? ⟨b, 3, none⟩ = some (.int .i64 mx) → Calls Tryz.prog 22 #[.pointer (some ⟨b, 0, none⟩)] W fun e w' => e = .returned (.bool a2) ∧ Below W.heap.size W w') :=
      Lib.hid (fun W x0 x2 x3 => by rw [ha2]; exact timesOk_any b k mn mx W x0 x2 x3)
    have HRD : Hid (RdG w B A s) := Lib.hid (h5.rd fun _ q => q)
    have HKS := Lib.hid h6
    have HRES := Lib.hid hres; have HA3 := Lib.hid ha3; have HIH := Lib.hid (ih hd30)
    have hdec : decide ((30 : Int) < (d : Int)) = false := decide_eq_false (by omega)
    unfold maxLen at h2 h4
    clear hT h5 h6 hres ha1 ha2 ha3 ih hr0
    obtain ⟨n, hn⟩ : ∃ n, n = ks.length := ⟨_, rfl⟩
    obtain ⟨m, hm⟩ : ∃ m, m = s.length := ⟨_, rfl⟩
    have HN := Lib.hid hn; have HM := Lib.hid hm
    rw [← hn] at HK HC z4 h3 hkl HKS
    rw [← hm] at HC z1 h1 hs
    clear hn hm
    go_enter Tryz.func12, Tryz.ntmps12
    go_wp2_with fail
    go_quiet ((go_at_call 21; exact Calls.quiet_of_same (HK.out _)))
    obtain ⟨w1, hw1⟩ : ∃ w1, w1 = w.drewN nq := ⟨_, rfl⟩
    have hb1 : Below w.heap.size w w1 := by rw [hw1]; exact dn_below' _ _
    rw [← hw1]
    have hs1 := hb1.size
    have HT1 := Lib.hid (HT2.out w1 (HC.out w1 (hb1.mono hB) (by omega)).1 (HC.out w1 (hb1.mono hB) (by omega)).2.2.1 (HC.out w1 (hb1.mono hB) (by omega)).2.2.2.1)
    have HB1 := Lib.hid hb1
    clear hw1 hb1 z0 z1 z2 z3 z4
    go_wp2_with fail
    refine HT1.out.mono ?_
    clear HT1
    rintro e w2 ⟨rfl, hb2⟩
    have hb02 := HB1.out.trans (hb2.mono hs1)
    have hs2 := hb2.size
    obtain ⟨-, z1, -, -, -⟩ := HC.out w2 (hb02.mono hB) (by omega)
    have HCN := Lib.hid (rCanon_any A m c s w2 B (by omega) (HRD.out.below (hb02.mono hB)) HM.out.symm (by omega))
    have HB2 := Lib.hid hb02
    clear hb2 hb02
    go_wp2_with fail
    refine HCN.out.mono ?_
    clear HCN
    rintro e w3 ⟨v3, out, rfl, ho3, hcan, hb3, hl3⟩
    obtain ⟨A3, c3, rfl, x1, x2, x3⟩ := ho3.form
    have hb03 := HB2.out.trans (hb3.mono (by omega))
    have hs3 := hb3.size
    obtain ⟨-, z1', -, -, -⟩ := HC.out w3 (hb03.mono hB) (by omega)
    have HSM := Lib.hid (same_any A3 A out.length c3 m c out s w3 w3.heap.size B x3 rfl (by omega) (HRD.out.below (hb03.mono hB)) HM.out.symm (by omega))
    rw [can_eq hcan, ← HA3.out] at HSM
    have HB3 := Lib.hid hb03
    have hol : out.length ≤ 2000 := hl3
    obtain ⟨q, hq⟩ : ∃ q, q = out.length := ⟨_, rfl⟩
    rw [← hq] at HSM hol ⊢
    clear hb3 hb03 ho3 hcan hl3 x1 x2 x3 hq z1
    go_wp2_with fail
    refine HSM.out.mono ?_
    clear HSM
    rintro e w4 ⟨rfl, hb4⟩
    have hb04 := HB3.out.trans (hb4.mono (by omega))
    have hs4 := hb4.size
    obtain ⟨z0, z1, -, -, z4⟩ := HC.out w4 (hb04.mono hB) (by omega)
    have HB4 := Lib.hid hb04
    clear hb4 hb04 z1'
    cases a1 with
    | false =>
      as_aux_lemma =>
        have HE : Hid (res = false) := Lib.hid (by rw [HRES.out]; simp)
        go_wp2_with fail
        go_ret
        exact ⟨ret_eq (by rw [HE.out]; rfl), HB4.out⟩
    | true =>
    cases a2 with
    | false =>
      as_aux_lemma =>
        have HE : Hid (res = false) := Lib.hid (by rw [HRES.out]; simp)
        go_wp2_with fail
        go_ret
        exact ⟨ret_eq (by rw [HE.out]; rfl), HB4.out⟩
    | true =>
    cases a3 with
    | false =>
      as_aux_lemma =>
        have HE : Hid (res = false) := Lib.hid (by rw [HRES.out]; simp)
        go_wp2_with fail
        go_ret
        exact ⟨ret_eq (by rw [HE.out]; rfl), HB4.out⟩
    | true =>
    have hloop : ∀ (pre : Prop), (k = 1 ∨ m = 0) → res = shpL (d + 1) ks := fun _ q => by
      rw [HRES.out]
      rcases q with q | q
      · simp [q]
      · have : s = [] := List.eq_nil_of_length_eq_zero (by rw [← HM.out]; exact q)
        simp [this]
    by_cases hbad : k ≠ 1 ∧ 0 < m
    · as_aux_lemma =>
        have HE : Hid (res = false) := Lib.hid (by
          rw [HRES.out]
          have : s ≠ [] := fun e => by have := HM.out; rw [e] at this; simp at this; omega
          simp [hbad.1, this])
        have e1 : (k != 1) = true := by rw [bne_iff_ne]; exact hbad.1
        have e2 : decide ((0 : Int) < (m : Int)) = true := decide_eq_true (by omega)
        clear hloop
        go_wp2_with fail
        go_ret
        exact ⟨ret_eq (by rw [HE.out]; rfl), HB4.out⟩
    · have HE := Lib.hid (hloop True (by omega))
      clear hloop
      -- the kids
      have HSUM : Hid (∀ i x, ks[i]? = some x → shpL (d + 1) (ks.take (i + 1)) = (shpL (d + 1) (ks.take i) && shp (d + 1) x)) := Lib.hid (fun i x hx => shpL_take hx)
      have fin : ∀ (a : Bool) (w : World), True := fun _ _ => trivial
      by_cases hk1 : k = 1
      · subst hk1
        go_wp2_with fail
        go_loopw [9, 10] (fun i u wr => ∃ j : Nat, j ≤ n ∧ i = .int .i64 (j : Int) ∧ Hid (shpL (d + 1) (ks.take j) = true) ∧ Hid (Below w.heap.size w wr)) (fun i _ _ => n - (intOf i).toNat)
        case atStart => exact ⟨0, Nat.zero_le _, rfl, rfl, HB4.out⟩
        case round =>
          as_aux_lemma =>
            obtain ⟨j, hj, rfl, HJ, HBJ⟩ := hrel
            have hsj := HBJ.out.size
            obtain ⟨-, -, -, -, z4⟩ := HC.out wr (HBJ.out.mono hB) (by omega)
            by_cases hlt : j < n
            · as_aux_lemma =>
                obtain ⟨x, hx⟩ : ∃ x, ks[j]? = some x := ⟨_, List.getElem?_eq_getElem (by rw [← HN.out]; exact hlt)⟩
                obtain ⟨kb, off, rfl, hkb, hkc⟩ := HKS.out (by omega)
                obtain ⟨u, zu, hu⟩ := hkc j x hx
                have zj := ((HBJ.out.mono hB).cell (p := ⟨kb, off + j, none⟩) hkb).trans zu
                obtain ⟨up, rfl⟩ := hu.ptr
                have HI := Lib.hid (HIH.out x (List.mem_of_getElem? hx) (.pointer up) wr (by omega) (RxB.below hu (HBJ.out.mono hB)))
                have HS := Lib.hid (HSUM.out j x hx)
                obtain ⟨r, hr⟩ : ∃ r, r = shp (d + 1) x := ⟨_, rfl⟩
                rw [← hr] at HI HS
                obtain ⟨wo, rfl⟩ : ∃ wo : World, wo = wr := ⟨_, rfl⟩
                clear hkc zu hu hx hr
                go_wp2_with fail
                refine HI.out.mono ?_
                clear HI
                rintro e w5 ⟨rfl, hb5⟩
                have HB5 := Lib.hid (HBJ.out.trans (hb5.mono (by omega)))
                clear hb5
                cases r with
                | false =>
                  as_aux_lemma =>
                    have HEF : Hid (res = false) := Lib.hid (by rw [HE.out]; exact shpL_no (i := j + 1) (by rw [HS.out]; simp))
                    go_wp2_with fail
                    go_ret
                    exact ⟨ret_eq (by rw [HEF.out]; rfl), HB5.out⟩
                | true =>
                  as_aux_lemma =>
                    have HT := Lib.hid (show shpL (d + 1) (ks.take (j + 1)) = true by rw [HS.out, HJ.out]; rfl)
                    go_wp2_with fail
                    go_roundw
                    case rel => exact ⟨j + 1, by omega, by go_num, HT, HB5⟩
                    case measure => simp [intOf]; omega
            · as_aux_lemma =>
                obtain rfl : j = n := by omega
                have HEF : Hid (res = true) := Lib.hid (by
                  rw [HE.out]
                  have := HJ.out
                  rwa [List.take_of_length_le (by rw [← HN.out]; exact Nat.le_refl _)] at this)
                go_wp2_with fail
                go_ret
                exact ⟨ret_eq (by rw [HEF.out]; rfl), HBJ.out⟩
      · have e1 : (k != 1) = true := by rw [bne_iff_ne]; exact hk1
        have hm0 : m = 0 := by omega
        subst hm0
        go_wp2_with fail
        go_loopw [9, 10] (fun i u wr => ∃ j : Nat, j ≤ n ∧ i = .int .i64 (j : Int) ∧ Hid (shpL (d + 1) (ks.take j) = true) ∧ Hid (Below w.heap.size w wr)) (fun i _ _ => n - (intOf i).toNat)
        case atStart => exact ⟨0, Nat.zero_le _, rfl, rfl, HB4.out⟩
        case round =>
          as_aux_lemma =>
            obtain ⟨j, hj, rfl, HJ, HBJ⟩ := hrel
            have hsj := HBJ.out.size
            obtain ⟨-, -, -, -, z4⟩ := HC.out wr (HBJ.out.mono hB) (by omega)
            by_cases hlt : j < n
            · as_aux_lemma =>
                obtain ⟨x, hx⟩ : ∃ x, ks[j]? = some x := ⟨_, List.getElem?_eq_getElem (by rw [← HN.out]; exact hlt)⟩
                obtain ⟨kb, off, rfl, hkb, hkc⟩ := HKS.out (by omega)
                obtain ⟨u, zu, hu⟩ := hkc j x hx
                have zj := ((HBJ.out.mono hB).cell (p := ⟨kb, off + j, none⟩) hkb).trans zu
                obtain ⟨up, rfl⟩ := hu.ptr
                have HI := Lib.hid (HIH.out x (List.mem_of_getElem? hx) (.pointer up) wr (by omega) (RxB.below hu (HBJ.out.mono hB)))
                have HS := Lib.hid (HSUM.out j x hx)
                obtain ⟨r, hr⟩ : ∃ r, r = shp (d + 1) x := ⟨_, rfl⟩
                rw [← hr] at HI HS
                obtain ⟨wo, rfl⟩ : ∃ wo : World, wo = wr := ⟨_, rfl⟩
                clear hkc zu hu hx hr
                go_wp2_with fail
                refine HI.out.mono ?_
                clear HI
                rintro e w5 ⟨rfl, hb5⟩
                have HB5 := Lib.hid (HBJ.out.trans (hb5.mono (by omega)))
                clear hb5
                cases r with
                | false =>
                  as_aux_lemma =>
                    have HEF : Hid (res = false) := Lib.hid (by rw [HE.out]; exact shpL_no (i := j + 1) (by rw [HS.out]; simp))
                    go_wp2_with fail
                    go_ret
                    exact ⟨ret_eq (by rw [HEF.out]; rfl), HB5.out⟩
                | true =>
                  as_aux_lemma =>
                    have HT := Lib.hid (show shpL (d + 1) (ks.take (j + 1)) = true by rw [HS.out, HJ.out]; rfl)
                    go_wp2_with fail
                    go_roundw
                    case rel => exact ⟨j + 1, by omega, by go_num, HT, HB5⟩
                    case measure => simp [intOf]; omega
            · as_aux_lemma =>
                obtain rfl : j = n := by omega
                have HEF : Hid (res = true) := Lib.hid (by
                  rw [HE.out]
                  have := HJ.out
                  rwa [List.take_of_length_le (by rw [← HN.out]; exact Nat.le_refl _)] at this)
                go_wp2_with fail
                go_ret
                exact ⟨ret_eq (by rw [HEF.out]; rfl), HBJ.out⟩
  · as_aux_lemma =>
      have HE : Hid (shp d (.node k s mn mx ks) = false) := Lib.hid (by rw [shp]; simp [hd30])
      have hdec : 30 < d := by omega
      clear hT h5 h6 ih
      go_enter Tryz.func12, Tryz.ntmps12
      go_wp2_with fail
      go_ret
      exact ⟨ret_eq (by rw [HE.out]; rfl), Below.refl _ _⟩
end Go.Proofs.YtaachamblagbhaaGreatDoor
