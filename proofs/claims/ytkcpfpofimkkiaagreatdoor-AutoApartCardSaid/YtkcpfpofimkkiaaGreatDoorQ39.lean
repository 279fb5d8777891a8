/- The law AutoApart walked: it returns true. -/
import Derived.Test.YtkcpfpofimkkiaaGreatDoorQ3
import Derived.Test.YtkcpfpofimkkiaaGreatDoorQ12
import Derived.Test.YtkcpfpofimkkiaaGreatDoorQ31
import Derived.Test.YtkcpfpofimkkiaaGreatDoorQ35
import Derived.Test.YtkcpfpofimkkiaaGreatDoorQ38
namespace Go.Proofs.YtkcpfpofimkkiaaGreatDoor
open Go.RowKit BigFrame
set_option linter.unusedVariables false
set_option linter.unusedSimpArgs false
set_option maxRecDepth 100000

theorem way0 : wayP none = ByteArray.empty := rfl
theorem FirR.uniq {l : List St} {rule : Int} {r r' : Option (List Int)} (h : FirR l rule r) (h' : FirR l rule r') : r = r' := by
  rcases h with ⟨a, b⟩ | ⟨a, b⟩ <;> rcases h' with ⟨a', b'⟩ | ⟨a', b'⟩
  · rw [b, b']
  · omega
  · omega
  · exact b.uniq b'

set_option maxHeartbeats 4000000 in
theorem walk_AutoApart (w : World) (f : Pow w ∧ 0 < w.heap.size) (v0 : Value) (hv0 : IsAuto w v0) (v1 : Value) (hv1 : IsAuto w v1) (rule : Int) (hru : (Lit.int .i64 rule).wf = true) (N : Int) (hN : (Lit.int .i64 N).wf = true) :
    Calls Tryz.prog 3 #[v0, v1, .int .i64 rule, .int .i64 N] w fun e w' => e = .returned (.bool true) ∧ Below w.heap.size w w' := by
  obtain ⟨A, c, la, rfl, hlc, hc, h, hz, hms⟩ := hv0
  obtain ⟨A', c', lb, rfl, hlc', hc', h', hz', hms'⟩ := hv1
  obtain ⟨n, hn⟩ : ∃ n, n = la.length := ⟨_, rfl⟩
  obtain ⟨n', hn'⟩ : ∃ n', n' = lb.length := ⟨_, rfl⟩
  rw [← hn] at hlc h hz
  rw [← hn]
  rw [← hn'] at hlc' h' hz'
  rw [← hn']
  have HL := Lib.hid hn.symm; have HL' := Lib.hid hn'.symm
  unfold reachBytes at hz hms hz' hms'
  unfold maxLen at hc hc'
  obtain ⟨g, hg⟩ : ∃ g, w.heap.size = g := ⟨_, rfl⟩
  obtain ⟨W0, hW0⟩ : ∃ W0, W0 = (w.alloc (.cells #[.slice A n c] 24)).alloc (.cells #[.slice A' n' c'] 24) := ⟨_, rfl⟩
  have hs0 : W0.heap.size = g + 1 + 1 := by rw [hW0, ← hg]; simp
  have hb0 : Below g w W0 := by rw [hW0, ← hg]; exact ((Below.refl _ _).alloc (Nat.le_refl _) _).alloc (by simp) _
  have hk0 : Blk W0 g 24 [.slice A n c] := by rw [hW0, ← hg]; exact (Blk.new w _ _).alloc _
  have hk1 : Blk W0 (g + 1) 24 [.slice A' n' c'] := by
    have := Blk.new (w.alloc (.cells #[.slice A n c] 24)) 24 [.slice A' n' c']
    rw [show (w.alloc (.cells #[.slice A n c] 24)).heap.size = g + 1 by rw [← hg]; simp] at this
    rw [hW0]; exact this
  have HB0 := Lib.hid hb0; have HK0 := Lib.hid hk0; have HK1 := Lib.hid hk1; have HG := Lib.hid hg; have HS0 := Lib.hid hs0
  have HSA : Hid (∀ W, Below (g + 1 + 1) W0 W → (shL shState).rd W (Lo g) la [.slice A n c]) := Lib.hid (fun W hb => by rw [hg] at h; exact Sh.below h (hb0.trans (hb.mono (by omega))))
  have HSB : Hid (∀ W, Below (g + 1 + 1) W0 W → (shL shState).rd W (Lo g) lb [.slice A' n' c']) := Lib.hid (fun W hb => by rw [hg] at h'; exact Sh.below h' (hb0.trans (hb.mono (by omega))))
  have hgl : 0 < g := by rw [← hg]; exact f.2
  have HPW : Hid (∀ W, Below (g + 1 + 1) W0 W → Pow W) := Lib.hid (fun W hb => f.1.below hgl (hb0.trans (hb.mono (by omega))))
  have HGL := Lib.hid hgl
  have HMS : Hid (∀ s ∈ la, s.2.length ≤ 140737488355328) := Lib.hid (fun s hs => by have := hms s hs; omega)
  have HMS' : Hid (∀ s ∈ lb, s.2.length ≤ 140737488355328) := Lib.hid (fun s hs => by have := hms' s hs; omega)
  have HBW : Hid (∀ W, Below (g + 1 + 1) W0 W → Below g w W) := Lib.hid (fun W hb => hb0.trans (hb.mono (by omega)))
  have HA := Lib.hid (small_any A n c la W0 (Sh.up (HSA.out W0 (Below.refl _ _)) (by omega)) HL.out (by omega) HMS.out)
  have z0 := hk0.cell (i := 0) rfl
  have z1 := hk1.cell (i := 0) rfl
  clear h hms h' hms' hn hn' hs0 hb0 hk0 hk1 f hgl hru hN
  go_enter Tryz.func3, Tryz.ntmps3
  go_wp2_with fail
  rw [← hW0]
  clear hW0 hg
  go_wp2_with fail
  refine HA.out.mono ?_
  clear HA
  rintro e w1 ⟨rfl, hb1⟩
  have hs0 := HS0.out
  have HB1 : Hid (Below (g + 1 + 1) W0 w1) := Lib.hid (by rw [hs0] at hb1; exact hb1)
  have hz1 := hb1.size
  have z0 := (HK0.out.below HB1.out (by omega)).cell (i := 0) rfl
  have z1 := (HK1.out.below HB1.out (by omega)).cell (i := 0) rfl
  have HA := Lib.hid (small_any A' n' c' lb w1 (Sh.up (HSB.out w1 HB1.out) (by omega)) HL'.out (by omega) HMS'.out)
  clear hb1
  go_wp2_with fail
  refine HA.out.mono ?_
  clear HA
  rintro e w2 ⟨rfl, hb2⟩
  have hz2 := hb2.size
  have HB2 : Hid (Below (g + 1 + 1) W0 w2) := Lib.hid (HB1.out.trans (hb2.mono (by omega)))
  have z0 := (HK0.out.below HB2.out (by omega)).cell (i := 0) rfl
  have z1 := (HK1.out.below HB2.out (by omega)).cell (i := 0) rfl
  clear hb2
  cases hsa : smallA la with
  | false =>
    as_aux_lemma =>
      clear hsa
      go_wp2_with fail
      go_ret
      have hgw := HG.out
      exact ⟨rfl, by rw [hgw]; exact HBW.out _ HB2.out⟩
  | true =>
  cases hsb : smallA lb with
  | false =>
    as_aux_lemma =>
      clear hsa hsb
      go_wp2_with fail
      go_ret
      have hgw := HG.out
      exact ⟨rfl, by rw [hgw]; exact HBW.out _ HB2.out⟩
  | true =>
  unfold smallA at hsa hsb
  simp only [Bool.and_eq_true, decide_eq_true_eq] at hsa hsb
  have hn14 : n ≤ 14 := by rw [← HL.out]; exact hsa.1
  have hn14' : n' ≤ 14 := by rw [← HL'.out]; exact hsb.1
  have HM := Lib.hid hsa.2; have HM' := Lib.hid hsb.2
  have HA := Lib.hid (r1AutoOk_any A n c la w2 (Sh.up (HSA.out w2 HB2.out) (by omega)) HL.out (by omega))
  clear hsa hsb
  go_wp2_with fail
  refine HA.out.mono ?_
  clear HA
  rintro e w3 ⟨rfl, hb3⟩
  have hz3 := hb3.size
  have HB3 : Hid (Below (g + 1 + 1) W0 w3) := Lib.hid (HB2.out.trans (hb3.mono (by omega)))
  have z0 := (HK0.out.below HB3.out (by omega)).cell (i := 0) rfl
  have z1 := (HK1.out.below HB3.out (by omega)).cell (i := 0) rfl
  have HA := Lib.hid (r1AutoOk_any A' n' c' lb w3 (Sh.up (HSB.out w3 HB3.out) (by omega)) HL'.out (by omega))
  clear hb3
  go_wp2_with fail
  refine HA.out.mono ?_
  clear HA
  rintro e w4 ⟨rfl, hb4⟩
  have hz4 := hb4.size
  have HB4 : Hid (Below (g + 1 + 1) W0 w4) := Lib.hid (HB3.out.trans (hb4.mono (by omega)))
  have z0 := (HK0.out.below HB4.out (by omega)).cell (i := 0) rfl
  have z1 := (HK1.out.below HB4.out (by omega)).cell (i := 0) rfl
  have HA := Lib.hid (pApart_any A A' n c n' c' la lb w4 g (by omega) (HSA.out w4 HB4.out) (HSB.out w4 HB4.out) HL.out HL'.out hn14 hn14' HM.out HM'.out)
  clear hb4
  go_wp2_with fail
  refine HA.out.mono ?_
  clear HA
  rintro e w5 ⟨r1, hr1, rfl, hb5⟩
  have hz5 := hb5.size
  have HB5 : Hid (Below (g + 1 + 1) W0 w5) := Lib.hid (HB4.out.trans (hb5.mono (by omega)))
  have z0 := (HK0.out.below HB5.out (by omega)).cell (i := 0) rfl
  have z1 := (HK1.out.below HB5.out (by omega)).cell (i := 0) rfl
  have HR1 := Lib.hid hr1
  have HA := Lib.hid (pFirst_any A n c la rule w5 g (by omega) (HSA.out w5 HB5.out) HL.out hn14 HM.out)
  obtain ⟨t1, ht1⟩ : ∃ t1, t1 = wayP r1 := ⟨_, rfl⟩
  obtain ⟨b1, hb1⟩ : ∃ b1, b1 = r1.isSome := ⟨_, rfl⟩
  rw [← ht1, ← hb1]
  have HT1 := Lib.hid ht1; have HI1 := Lib.hid hb1
  clear hb5 hr1 ht1 hb1
  go_wp2_with fail
  refine HA.out.mono ?_
  clear HA
  rintro e w6 ⟨r2, hr2, rfl, hb6⟩
  have hz6 := hb6.size
  have HB6 : Hid (Below (g + 1 + 1) W0 w6) := Lib.hid (HB5.out.trans (hb6.mono (by omega)))
  have z0 := (HK0.out.below HB6.out (by omega)).cell (i := 0) rfl
  have z1 := (HK1.out.below HB6.out (by omega)).cell (i := 0) rfl
  have HR2 := Lib.hid hr2
  have HA := Lib.hid (pCount_any A n c la N w6 g HGL.out (by omega) (HSA.out w6 HB6.out) HL.out (by omega) HM.out (HPW.out w6 HB6.out))
  obtain ⟨t2, ht2⟩ : ∃ t2, t2 = wayP r2 := ⟨_, rfl⟩
  obtain ⟨b2, hb2⟩ : ∃ b2, b2 = r2.isSome := ⟨_, rfl⟩
  rw [← ht2, ← hb2]
  have HT2 := Lib.hid ht2; have HI2 := Lib.hid hb2
  obtain ⟨t3, ht3⟩ : ∃ t3 : ByteArray, t3 = ⟨(cntQ la N).toArray⟩ := ⟨_, rfl⟩
  rw [← ht3] at HA
  have HT3 := Lib.hid ht3
  clear hb6 hr2 ht2 hb2 ht3
  go_wp2_with fail
  refine HA.out.mono ?_
  clear HA
  rintro e w7 ⟨rfl, hb7⟩
  have hz7 := hb7.size
  have HB7 : Hid (Below (g + 1 + 1) W0 w7) := Lib.hid (HB6.out.trans (hb7.mono (by omega)))
  have z0 := (HK0.out.below HB7.out (by omega)).cell (i := 0) rfl
  have z1 := (HK1.out.below HB7.out (by omega)).cell (i := 0) rfl
  clear hb7
  cases hok : okA la with
  | false =>
    as_aux_lemma =>
      have e1 : r1 = none := by
        rcases HR1.out with ⟨-, q⟩ | ⟨q, -⟩
        · exact q
        · rw [hok] at q; cases q
      have e2 : r2 = none := by
        rcases HR2.out with ⟨-, q⟩ | ⟨q, -⟩
        · exact q
        · rw [hok] at q; cases q
      have e3 : t3 = ⟨#[48]⟩ := by rw [HT3.out]; unfold cntQ; rw [if_pos hok]
      have e4 := HT1.out
      have e5 := HT2.out
      have e6 := HI1.out
      have e7 := HI2.out
      subst e1 e2
      rw [way0] at e4 e5
      subst e3 e4 e5 e6 e7
      clear hok
      go_wp2_with fail
      go_ret
      have hgw := HG.out
      exact ⟨rfl, by rw [hgw]; exact HBW.out _ HB7.out⟩
  | true =>
  have HF2 : Hid (FirR la rule r2) := Lib.hid (by
    rcases HR2.out with ⟨q, -⟩ | ⟨-, q⟩
    · rw [hok] at q; cases q
    · exact q)
  have HOK := Lib.hid hok
  have e3 : t3 = ⟨(cntT la N).toArray⟩ := by rw [HT3.out]; unfold cntQ; rw [if_neg (by rw [hok]; simp)]
  have HE3 := Lib.hid e3
  have HA := Lib.hid (rFirst_any A n c la rule w7 g (by omega) (HSA.out w7 HB7.out) hok HL.out hn14 HM.out)
  clear hok e3
  go_wp2_with fail
  refine HA.out.mono ?_
  clear HA
  rintro e w8 ⟨r3, hr3, rfl, hb8⟩
  obtain rfl : r3 = r2 := hr3.uniq HF2.out
  have hz8 := hb8.size
  have HB8 : Hid (Below (g + 1 + 1) W0 w8) := Lib.hid (HB7.out.trans (hb8.mono (by omega)))
  have z0 := (HK0.out.below HB8.out (by omega)).cell (i := 0) rfl
  have z1 := (HK1.out.below HB8.out (by omega)).cell (i := 0) rfl
  have ht2 : t2 = wayT r3 := HT2.out
  rw [← ht2, ← HI2.out]
  have HA := Lib.hid (rCount_any A n c la N w8 g (by omega) (HSA.out w8 HB8.out) HOK.out HL.out (by omega) HM.out)
  rw [← HE3.out] at HA
  have d1 : (b2 != b2) = false := by simp
  clear hb8 hr3 ht2
  go_wp2_with fail
  refine HA.out.mono ?_
  clear HA
  rintro e w9 ⟨rfl, hb9⟩
  have hz9 := hb9.size
  have HB9 : Hid (Below (g + 1 + 1) W0 w9) := Lib.hid (HB8.out.trans (hb9.mono (by omega)))
  have z0 := (HK0.out.below HB9.out (by omega)).cell (i := 0) rfl
  have z1 := (HK1.out.below HB9.out (by omega)).cell (i := 0) rfl
  clear hb9
  cases hok' : okA lb with
  | false =>
    as_aux_lemma =>
      have e1 : r1 = none := by
        rcases HR1.out with ⟨-, q⟩ | ⟨-, q, -⟩
        · exact q
        · rw [hok'] at q; cases q
      have e4 := HT1.out
      have e6 := HI1.out
      subst e1
      rw [way0] at e4
      subst e4 e6
      clear hok'
      go_wp2_with fail
      go_ret
      have hgw := HG.out
      exact ⟨rfl, by rw [hgw]; exact HBW.out _ HB9.out⟩
  | true =>
    as_aux_lemma =>
      have HF1 : Hid (AnsN (stP la lb) ((pts 0 1114112).filter vpt) (hitD la lb (-1)) r1) := Lib.hid (by
        rcases HR1.out with ⟨q | q, -⟩ | ⟨-, -, q⟩
        · rw [HOK.out] at q; cases q
        · rw [hok'] at q; cases q
        · exact q)
      have HA := Lib.hid (rApart_any A A' n c n' c' la lb w9 g (by omega) (HSA.out w9 HB9.out) (HSB.out w9 HB9.out) HOK.out hok' HL.out HL'.out hn14 hn14' HM.out HM'.out)
      clear hok'
      go_wp2_with fail
      refine HA.out.mono ?_
      clear HA
      rintro e wa ⟨r5, hr5, rfl, hba⟩
      obtain rfl : r5 = r1 := hr5.uniq HF1.out
      have HBa : Hid (Below (g + 1 + 1) W0 wa) := Lib.hid (HB9.out.trans (hba.mono (by omega)))
      have ht1 : t1 = wayT r5 := HT1.out
      rw [← ht1, ← HI1.out]
      have d4 : (b1 == b1) = true := by simp
      clear hba hr5 ht1
      go_wp2_with fail
      go_ret
      have hgw := HG.out
      exact ⟨rfl, by rw [hgw]; exact HBW.out _ HBa.out⟩
end Go.Proofs.YtkcpfpofimkkiaaGreatDoor
