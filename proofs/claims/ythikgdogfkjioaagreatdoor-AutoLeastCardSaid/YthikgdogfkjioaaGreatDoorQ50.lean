/- auto.Least, walked. · Shapes that bear the form's own reach: what came in, and how many bytes each slice takes. -/
import Derived.Test.YthikgdogfkjioaaGreatDoorQ46
import Derived.Test.YthikgdogfkjioaaGreatDoorQ48
import Derived.Test.YthikgdogfkjioaaGreatDoorQ49
import Derived.Test.YthikgdogfkjioaaGreatDoorQ1
import Derived.SizedLaws
namespace Go.Proofs.YthikgdogfkjioaaGreatDoor
open Go.RowKit BigFrame
set_option linter.unusedVariables false
set_option linter.unusedSimpArgs false
set_option maxRecDepth 100000

theorem thick_Dn {l : List St} {C : List (List Rg)} (hok : okA l = true) (hw : ∀ s ∈ l, wfI s.1) : Dn (fulR l) (fulM l C) (l.length + 1) C.length (rul l) (fun s c => dlt l s (repOf C c)) := by
  have e : ∀ s, s < l.length + 1 → nthL (fulM l C) s = fulRow l C s := fun s hs => by
    unfold nthL fulM
    rw [List.getD_eq_getElem?_getD, List.getElem?_map, List.getElem?_range hs]; rfl
  refine ⟨by unfold fulR; simp, by unfold fulM; simp, fun s hs => by rw [e s hs]; unfold fulRow; simp, fun s hs => ?_, fun s c hs hc => ?_, fun s hs => ?_⟩
  · unfold nth fulR
    rw [List.getD_eq_getElem?_getD, List.getElem?_map, List.getElem?_range hs]; rfl
  · rw [e s hs]
    refine ⟨?_, by have := dlt_le hok s (repOf C c); omega⟩
    unfold nth fulRow
    rw [List.getD_eq_getElem?_getD, List.getElem?_map, List.getElem?_range hc]; rfl
  · unfold rul
    split
    · rename_i s' h
      exact hw _ (List.mem_of_getElem? h)
    · show (Lit.int .i64 (-1)).wf = true
      decide
theorem min_Dn {ru : Nat → Int} {mv : Nat → Nat → Nat} {N K count : Nat} {O : List Nat} {part : Nat → Nat} (h : Mini ru mv N K O part count) (hw : ∀ s, s < N → wfI (ru s)) :
    Dn (minR ru O part count) (minM mv K O part count) count K (fun k => ru (oAt O (fstOf O.length part k))) (fun k c => part (O.idxOf (mv (oAt O (fstOf O.length part k)) c))) := by
  have hf : ∀ k, k < count → fstOf O.length part k < O.length := fun k hk => by
    obtain ⟨i, hi, e⟩ := h.on k hk
    rw [← e]; exact (fstOf_spec (part := part) hi).1
  have e : ∀ s, s < count → nthL (minM mv K O part count) s = minRow mv K O part s := fun s hs => by
    unfold nthL minM
    rw [List.getD_eq_getElem?_getD, List.getElem?_map, List.getElem?_range hs]; rfl
  refine ⟨by unfold minR; simp, by unfold minM; simp, fun s hs => by rw [e s hs]; unfold minRow; simp, fun s hs => ?_, fun s c hs hc => ?_, fun s hs => ?_⟩
  · unfold nth minR
    rw [List.getD_eq_getElem?_getD, List.getElem?_map, List.getElem?_range hs]; rfl
  · rw [e s hs]
    refine ⟨?_, h.lt _ (h.pr.at_ _ c (hf s hs) hc).1⟩
    unfold nth minRow
    rw [List.getD_eq_getElem?_getD, List.getElem?_map, List.getElem?_range hc]; rfl
  · refine hw _ (h.le _ ?_)
    rw [oAt_get (hf s hs)]; exact List.getElem_mem _
theorem Mini.pos_count {ru : Nat → Int} {mv : Nat → Nat → Nat} {N K count : Nat} {O : List Nat} {part : Nat → Nat} (h : Mini ru mv N K O part count) : 0 < count := by
  have := h.lt 0 h.pos; omega
theorem Mini.count_le {ru : Nat → Int} {mv : Nat → Nat → Nat} {N K count : Nat} {O : List Nat} {part : Nat → Nat} (h : Mini ru mv N K O part count) : count ≤ N := by
  have : count ≤ O.length := by
    have hsub := len_le_of_sub (a := List.range count) (List.nodup_range) (b := (List.range O.length).map part) (fun v hv => by
      obtain ⟨i, hi, e⟩ := h.on v (List.mem_range.1 hv)
      exact List.mem_map.2 ⟨i, List.mem_range.2 hi, e⟩)
    simpa using hsub
  have := h.len; omega
theorem setsP_one {l : List St} (hm : totM l ≤ 60) : ∀ s ∈ setsP l, s.length ≤ 60 := fun s hs => by
  obtain ⟨i, hi, rfl⟩ := List.getElem_of_mem hs
  have h1 := totR_take hi
  have h2 := totR_take_le (setsP l) (i + 1)
  have h3 := totR_setsP l
  omega

theorem okM_to {n : Nat} : ∀ {ms : List Mv} {last : Int}, okM n last ms = true → ∀ m ∈ ms, 0 ≤ m.2.2 ∧ m.2.2 < n
  | [], _, _, m, hm => by cases hm
  | a :: r, last, h, m, hm => by
    unfold okM at h
    simp only [Bool.and_eq_true, decide_eq_true_eq] at h
    rcases List.mem_cons.1 hm with q | q
    · subst q; exact ⟨h.1.2.2.2.1, h.1.2.2.2.2⟩
    · exact okM_to h.2 m q
theorem okA_to {l : List St} (h : okA l = true) : ∀ s ∈ l, ∀ m ∈ s.2, 0 ≤ m.2.2 ∧ m.2.2 < l.length := fun s hs m hm => by
  unfold okA at h
  simp only [Bool.and_eq_true, List.all_eq_true, decide_eq_true_eq] at h
  have := h.2 s hs
  unfold okS at this
  simp only [Bool.and_eq_true] at this
  exact okM_to this.2 m hm
set_option maxHeartbeats 8000000 in
theorem pLeast_any (A : Option Addr) (n c : Nat) (l : List St) (w : World) (B : Nat) (hB : B ≤ w.heap.size) (h : (shL shState).rd w (Lo B) l [.slice A n c]) (hok : okA l = true) (hl : l.length = n) (h0 : 0 < n) (hn : n ≤ 14) (hm : totM l ≤ 60) (hwr : ∀ s ∈ l, wfI s.1) :
    Calls Tryz.prog 6 #[.agg #[.slice A n c]] w fun e w' => ∃ A' c' acc, e = .returned (.agg #[.slice A' (List.length acc) c']) ∧ acc.length ≤ n + 1 ∧ RdA w' w'.heap.size A' acc ∧ Below w.heap.size w w' ∧ PeaR l acc := by
  have H := Lib.hid h; have HL := Lib.hid hl; have HOK := Lib.hid hok; have HM := Lib.hid hm; have HWR := Lib.hid hwr
  obtain ⟨g, hg⟩ : ∃ g, w.heap.size = g := ⟨_, rfl⟩
  obtain ⟨W1, hW1⟩ : ∃ W1, W1 = (w.alloc (.cells #[.slice A n c] 24)).alloc (.cells #[.slice none 0 0] 24) := ⟨_, rfl⟩
  have hs1 : W1.heap.size = g + 1 + 1 := by rw [hW1, ← hg]; simp
  have hb1 : Below g w W1 := by rw [hW1, ← hg]; exact ((Below.refl _ _).alloc (Nat.le_refl _) _).alloc (by simp) _
  have hk1 : Blk W1 g 24 [.slice A n c] := by rw [hW1, ← hg]; exact (Blk.new w _ _).alloc _
  have hr1 : Blk W1 (g + 1) 24 [.slice none 0 0] := by
    have := Blk.new (w.alloc (.cells #[.slice A n c] 24)) 24 [.slice none 0 0]
    rw [show (w.alloc (.cells #[.slice A n c] 24)).heap.size = g + 1 by rw [← hg]; simp] at this
    rw [hW1]; exact this
  have HB1 := Lib.hid hb1; have HK1 := Lib.hid hk1; have HS1 := Lib.hid hs1; have HG := Lib.hid hg; have HR1 := Lib.hid hr1
  have hSH : (shL shState).rd W1 (Lo W1.heap.size) l [.slice A n c] := Sh.up (Sh.below h (hb1.mono (by omega))) (by omega)
  have HA := Lib.hid (autoOk_any A n c l W1 hSH hl (by omega))
  have z0 := hk1.cell (i := 0) rfl
  have d0 : ((n : Int) == 0) = false := by simp; omega
  have hgB : B ≤ g := by omega
  have HWM : Hid (∀ s ∈ l, ∀ m ∈ s.2, wfI m.2.2) := Lib.hid (fun s hs m hm => by
    obtain ⟨a, b⟩ := okA_to hok s hs m hm
    obtain ⟨k, e⟩ := Int.eq_ofNat_of_zero_le a
    rw [e]; exact wfI_nat (by omega))
  rw [hok] at HA
  clear h hok hl hm hb1 hk1 hs1 hr1 hSH hwr
  go_enter Tryz.func6, Tryz.ntmps6
  go_wp2_with fail
  rw [← hW1]
  clear hW1 hg
  go_wp2_with fail
  refine HA.out.mono ?_
  clear HA
  rintro e w2 ⟨rfl, hb2⟩
  have hs1 := HS1.out
  have hz2 := hb2.size
  have HB2 : Hid (Below (g + 1 + 1) W1 w2) := Lib.hid (by rw [hs1] at hb2; exact hb2)
  have z0 := (HK1.out.below HB2.out (by omega)).cell (i := 0) rfl
  have hSH2 : (shL shState).rd w2 (Lo B) l [.slice A n c] := Sh.below H.out ((HB1.out.trans (HB2.out.mono (by omega))).mono hgB)
  have HA := Lib.hid (pMoveSets_any A n c l w2 B (by omega) hSH2 HL.out (by omega) HM.out HWM.out)
  clear hb2 hSH2
  go_wp2_with fail
  refine HA.out.mono ?_
  clear HA
  rintro e w3 ⟨v3, vs3, rfl, hv3, hb3⟩
  have hz3 := hb3.size
  have HB3 : Hid (Below (g + 1 + 1) W1 w3) := Lib.hid (HB2.out.trans (hb3.mono (by omega)))
  obtain ⟨A3, c3, rfl, -, -, hr3⟩ := hv3.rds
  have HA := Lib.hid (newAlphabet_any A3 (setsP l).length c3 (setsP l) w3 w3.heap.size (Nat.le_refl _) hr3 rfl (by rw [totR_setsP]; have h1 := HM.out; have h2 := setsP_len l; omega) (setsP_one HM.out))
  clear hv3 hb3 hr3 z0
  go_wp2_with fail
  refine HA.out.mono ?_
  clear HA
  rintro e w4 ⟨C, X, Y, Ax, cx, Ay, cy, rfl, hAl, hx1, hx2, hy1, hy2, hXr, hYr, hb4⟩
  have hz4 := hb4.size
  obtain ⟨P, hP⟩ : ∃ P, P = X.length := ⟨_, rfl⟩
  obtain ⟨K, hK⟩ : ∃ K, K = C.length := ⟨_, rfl⟩
  rw [← hP] at hx1 hy1
  rw [← hP, ← hK]
  obtain ⟨w5, hw5⟩ : ∃ w5, w5 = w4.alloc (.cells #[.slice Ax P cx, .slice Ay P cy, .int .i64 (K : Int)] 36) := ⟨_, rfl⟩
  obtain ⟨gx, hgx⟩ : ∃ gx, gx = w4.heap.size := ⟨_, rfl⟩
  have hb5 : Below w4.heap.size w4 w5 := by rw [hw5]; exact (Below.refl _ _).alloc (Nat.le_refl _) _
  have HKX : Hid (Blk w5 gx 36 [.slice Ax P cx, .slice Ay P cy, .int .i64 (K : Int)]) := Lib.hid (by rw [hw5, hgx]; exact Blk.new w4 _ _)
  have HB5 : Hid (Below (g + 1 + 1) W1 w5) := Lib.hid (HB3.out.trans ((hb4.mono (by omega)).trans (hb5.mono (by omega))))
  have hz5 : w5.heap.size = gx + 1 := by rw [hw5, hgx]; simp
  have HXR : Hid (RdG w5 gx Ax X) := Lib.hid (by rw [hgx]; exact RdG.below hXr hb5)
  have HYR : Hid (RdI w5 gx Ay Y) := Lib.hid (by rw [hgx]; exact RdI.below hYr hb5)
  have HAL := Lib.hid hAl; have HP := Lib.hid hP; have HK := Lib.hid hK
  have hgxg : g + 1 + 1 ≤ gx := by omega
  have hK322 : K ≤ 322 := by rw [hK]; exact hAl.k
  have hP644 : P ≤ 64400 := by rw [hP]; exact hAl.sz
  have HDN : Hid (Dn (fulR l) (fulM l C) (n + 1) K (rul l) (fun s c => dlt l s (repOf C c))) := Lib.hid (by rw [← HL.out, hK]; exact thick_Dn HOK.out HWR.out)
  clear hb4 hb5 hXr hYr hAl hP hK
  go_wp2_with fail
  rw [← hgx, ← hw5]
  clear hw5 hgx
  go_wp2_with fail
  obtain ⟨wd, hwd⟩ : ∃ wd, wd = w5.drew := ⟨_, rfl⟩
  have hbd : Below w5.heap.size w5 wd := by rw [hwd]; exact (Below.refl _ _).drew
  have HBD := Lib.hid hbd
  have hzd : wd.heap.size = gx + 1 := by rw [hwd]; exact hz5
  have hkg : Blk wd g 24 [.slice A n c] := (HK1.out.below HB5.out (by omega)).below' hbd
  have hkx : Blk wd gx 36 [.slice Ax P cx, .slice Ay P cy, .int .i64 (K : Int)] := HKX.out.below' hbd
  have k0 : ∀ Z : KB (fun q => q = g + 1) wd, Z.val.cell? ⟨g, 0, none⟩ = some (.slice A n c) := fun Z => (Z.kp.cell (p := ⟨g, 0, none⟩) hkg.lt (show ¬ (g = g + 1) by omega)).trans (hkg.cell (i := 0) rfl)
  have k1 : ∀ Z : KB (fun q => q = g + 1) wd, Z.val.cell? ⟨gx, 0, none⟩ = some (.slice Ax P cx) := fun Z => (Z.kp.cell (p := ⟨gx, 0, none⟩) hkx.lt (show ¬ (gx = g + 1) by omega)).trans (hkx.cell (i := 0) rfl)
  have k2 : ∀ Z : KB (fun q => q = g + 1) wd, Z.val.cell? ⟨gx, 1, none⟩ = some (.slice Ay P cy) := fun Z => (Z.kp.cell (p := ⟨gx, 1, none⟩) hkx.lt (show ¬ (gx = g + 1) by omega)).trans (hkx.cell (i := 1) rfl)
  have k3 : ∀ Z : KB (fun q => q = g + 1) wd, Z.val.cell? ⟨gx, 2, none⟩ = some (.int .i64 (K : Int)) := fun Z => (Z.kp.cell (p := ⟨gx, 2, none⟩) hkx.lt (show ¬ (gx = g + 1) by omega)).trans (hkx.cell (i := 2) rfl)
  have HBW : Hid (Below g w wd) := Lib.hid (HB1.out.trans ((HB5.out.trans (hbd.mono (by omega))).mono (by omega)))
  have HXd : Hid (RdG wd gx Ax X) := Lib.hid (RdG.below HXR.out (hbd.mono (by omega)))
  have HYd : Hid (RdI wd gx Ay Y) := Lib.hid (RdI.below HYR.out (hbd.mono (by omega)))
  have HRr : Hid (Blk wd (g + 1) 24 [.slice none 0 0]) := Lib.hid ((HR1.out.below HB5.out (by omega)).below' hbd)
  have HSHd : Hid ((shL shState).rd wd (Lo gx) l [.slice A n c]) := Lib.hid (Sh.up (Sh.below H.out (HBW.out.mono hgB)) (by omega))
  have HTH := Lib.hid (thick_any A Ax Ay n c P cx cy K l C X Y wd gx (by omega) HSHd.out HOK.out HL.out (by omega) HXd.out HP.out.symm ⟨hx1, hx2⟩ HYd.out ⟨hy1, hy2⟩ HAL.out.a HK.out.symm (by omega) (by omega) (cls_of_parted HAL.out.p (fun s p q hp hq h => setsP_const HOK.out hp hq h)))
  clear hbd hkg hkx
  unfold maxLen at hx2 hy2
  refine wp_region_S (fun w' => ∃ X : KB (fun q => q = g + 1) wd, w' = X.val) (by kernel_rfl) ?_
  rw [← hwd]
  clear hwd
  show wpAnyS _ _ _ _ _ (5 + 2) _ _ _
  refine takeS 5 0 2 (by kernel_rfl) (by kernel_rfl) (fun _ _ d _ _ h => by cases d <;> exact h) ⟨⟨_, Kp.refl _ _⟩, rfl⟩ ?_
  simp only [List.take_succ_cons, List.take_zero, List.drop_succ_cons, List.drop_zero]
  repeat (first | go_big_quiet_skip | (go_big_quiet_want; go_big_quiet_op; go_big_quiet_on))
  refine wpQuiet_nil ?_
  show wpAnyS _ _ _ _ _ (4 + 1) _ _ _
  refine takeS 4 4 1 (by kernel_rfl) (by kernel_rfl) (fun _ _ d _ _ h => by cases d <;> exact h) ⟨⟨_, Kp.refl _ _⟩, rfl⟩ ?_
  simp only [List.take_succ_cons, List.take_zero, List.drop_succ_cons, List.drop_zero]
  repeat (first | go_big_quiet_skip | (go_big_quiet_want; go_big_quiet_op; go_big_quiet_on))
  refine wpQuiet_nil ?_
  clear k0 k1 k2 k3
  refine oneS 3 2 (by kernel_rfl) (by decide) ?_
  simp only [List.take_succ_cons, List.take_zero, List.drop_succ_cons, List.drop_zero]
  go_wp2_with fail
  refine HTH.out.mono ?_
  clear HTH
  rintro e w6 ⟨Ar, Am, cr, cm, rfl, hr1, hr2, hm1, hm2, hR6, hM6, hb6⟩
  have hz6 := hb6.size
  have HB6 : Hid (Below (gx + 1) wd w6) := Lib.hid (by rw [hzd] at hb6; exact hb6)
  have HMIN := Lib.hid (minimal_any Ar Am (n + 1) K cr cm (fulR l) (fulM l C) (rul l) (fun s c => dlt l s (repOf C c)) w6 w6.heap.size (Nat.le_refl _) hR6 hM6 HDN.out ⟨hr1, hr2⟩ ⟨hm1, hm2⟩ (by omega) (by omega) (by omega))
  clear hb6 hR6 hM6
  go_wp2_with fail
  refine ⟨⟨KB.mk _ (Kp.of (by rw [hzd]; exact HB6.out)), rfl⟩, ?_⟩
  refine oneS 2 3 (by kernel_rfl) (by decide) ?_
  simp only [List.take_succ_cons, List.take_zero, List.drop_succ_cons, List.drop_zero]
  go_wp2_with fail
  refine HMIN.out.mono ?_
  clear HMIN
  rintro e w7 ⟨O, part, count, Ar', Am', cr', cm', rfl, hMi, hr1', hr2', hm1', hm2', hR7, hM7, hb7⟩
  have hz7 := hb7.size
  have HB7 : Hid (Below (gx + 1) wd w7) := Lib.hid (HB6.out.trans (hb7.mono (by omega)))
  have HMI := Lib.hid hMi
  have hcn := hMi.count_le
  have hcp := hMi.pos_count
  have HTN := Lib.hid (thin_any Ar' Am' Ax Ay count K P cr' cm' cx cy (minR (rul l) O part count) (minM (fun s c => dlt l s (repOf C c)) K O part count) (fun k => rul l (oAt O (fstOf O.length part k))) (fun k c => part (O.idxOf (dlt l (oAt O (fstOf O.length part k)) (repOf C c)))) C X Y w7 w7.heap.size (Nat.le_refl _)
    hR7 hM7 (min_Dn hMi HDN.out.wf) ⟨hr1', hr2'⟩ ⟨hm1', hm2'⟩ hcp (by omega) (by omega) HK.out.symm (RdG.more (RdG.below HXd.out (HB7.out.mono (by omega))) (by omega)) HP.out.symm ⟨hx1, by unfold maxLen; exact hx2⟩ (RdI.more (RdI.below HYd.out (HB7.out.mono (by omega))) (by omega)) ⟨hy1, by unfold maxLen; exact hy2⟩ HAL.out.a hP644 (fun r hr => HAL.out.c.ok r hr))
  clear hb7 hR7 hM7 hMi
  go_wp2_with fail
  refine ⟨⟨KB.mk _ (Kp.of (by rw [hzd]; exact HB7.out)), rfl⟩, ?_⟩
  refine oneS 1 5 (by kernel_rfl) (by decide) ?_
  simp only [List.take_succ_cons, List.take_zero, List.drop_succ_cons, List.drop_zero]
  go_wp2_with fail
  refine HTN.out.mono ?_
  clear HTN
  rintro e w8 ⟨A8, c8, acc, rfl, hac, hRA, hb8, AL, hAL1, hAL2⟩
  have hz8 := hb8.size
  have HB8 : Hid (Below (gx + 1) wd w8) := Lib.hid (HB7.out.trans (hb8.mono (by omega)))
  have HPEA : Hid (PeaR l acc) := Lib.hid ⟨C, X, O, part, count, AL, HAL.out.p, HAL.out.c, HAL.out.one, by rw [HL.out, ← HK.out]; exact HMI.out, by rw [← HK.out]; exact hAL1, hAL2, by rw [← HP.out]; exact hP644⟩
  have hr8 := HRr.out.below HB8.out (show g + 1 < gx + 1 by omega)
  have r0 := hr8.cell (i := 0) rfl
  have r1 := hr8.frozen 0
  have HR8 := Lib.hid (hr8.set_ 0 (.slice A8 acc.length c8))
  have HR8x := Lib.hid hr8
  have HRA := Lib.hid hRA
  have hacn : acc.length ≤ n + 1 := by omega
  clear hb8 hRA hAL1 hAL2 hr8
  go_wp2_with fail
  refine ⟨⟨KB.mk _ (Kp.of (by rw [hzd]; exact HB8.out)), rfl⟩, ?_⟩
  refine oneS 0 6 (by kernel_rfl) (by decide) ?_
  simp only [List.take_succ_cons, List.take_zero, List.drop_succ_cons, List.drop_zero]
  go_wp2_with fail
  refine ⟨⟨KB.mk _ ((Kp.of (S := fun q => q = g + 1) (by rw [hzd]; exact HB8.out)).set_ (p := ⟨g + 1, 0, none⟩) (.inr rfl) _), rfl⟩, ?_⟩
  refine endS (by kernel_rfl) ?_
  go_wp2_with fail
  have hgw := HG.out
  have hb9 : Below g w (w8.setCell ⟨g + 1, 0, none⟩ (.slice A8 acc.length c8)) := (HBW.out.trans (HB8.out.mono (by omega))).setCell (p := ⟨g + 1, 0, none⟩) (show g ≤ g + 1 by omega) _
  refine bodyPost_ret (results_cell_row rfl _ _ (g + 1) _ #[.slice A8 acc.length c8] _ _ rfl HR8.out Tryz.underlying24 rfl (by kernel_rfl)) rfl ?_
  refine ⟨A8, c8, acc, rfl, hacn, ?_, by rw [hgw]; exact hb9, HPEA.out⟩
  have h1 := HRA.out.set1 HR8x.out (.slice A8 acc.length c8)
  rw [show (w8.setCell ⟨g + 1, 0, none⟩ (.slice A8 acc.length c8)).heap.size = w8.heap.size from setCell_size _ _ _]
  exact h1
end Go.Proofs.YthikgdogfkjioaaGreatDoor
namespace Go.Proofs.YthikgdogfkjioaaGreatDoor
open Go.RowKit
set_option linter.unusedVariables false
set_option linter.unusedSimpArgs false
set_option maxRecDepth 100000

/-- A shape, and a plain condition besides. -/
def shZ {α : Type} (S : Sh α) (p : α → Prop) : Sh α where
  n := S.n
  rd := fun w F a cs => S.rd w F a cs ∧ p a
  len := fun h => S.len h.1
  keep := fun h k => ⟨S.keep h.1 k, h.2⟩
  more := fun h k => ⟨S.more h.1 k, h.2⟩
  one := fun h => S.one h.1
theorem weightsAll_mem {H : Type} {P : Program} {e : TypeId} {d : DataW H} : ∀ {ds : List (DataW H)}, d ∈ ds → ∀ n ∈ d.weights P e, n ∈ DataW.weightsAll P e ds
  | [], h, _, _ => by cases h
  | d0 :: ds, h, n, hn => by
    simp only [DataW.weightsAll, List.mem_append]
    rcases List.mem_cons.1 h with rfl | h
    · exact Or.inl hn
    · exact Or.inr (weightsAll_mem h n hn)
def OpensW (P : Program) (t : TypeId) {α : Type} (S : Sh α) : Prop :=
  P.cellsOf t = S.n ∧ ∀ (H : Type) (enc : TypeId × Value → H) (w : World) (base : Nat) (held : Bool) (fuel : Nat) (cs : List Value) (x : DataW H × List MemPlace),
    DataW.trod enc P w base (fun _ => true) held fuel t cs = some x → (∀ n ∈ x.1.weights P t, n ≤ reachBytes) → ∃ a, S.rd w (Lo w.heap.size) a cs
theorem Opens.w {P : Program} {t : TypeId} {α : Type} {S : Sh α} (h : Opens P t S) : OpensW P t S := ⟨h.1, fun H enc w base held fuel cs x hx _ => h.2 H enc w base held fuel cs x hx⟩
theorem opensW_slice {P : Program} {t e : TypeId} {α : Type} {S : Sh α} {bytes : Nat} (ht : P.underlying t = some (.slice e)) (hc : P.cellsOf t = 1) (hS : 0 < S.n) (hby : P.bytesOf e = bytes) (he : OpensW P e S) : OpensW P t (shZ (shL S) fun l => l.length * bytes ≤ reachBytes) :=
  ⟨hc, fun H enc w base held fuel cs x h hwt => by
    rcases Deep.open_slice ht h with ⟨rfl, _⟩ | ⟨a, len, cap, m, n, D, Pl, rfl, _, hl, hm, hmm, hxe, hx⟩
    · exact ⟨[], ⟨none, 0, [], rfl, Nat.le_refl _, Nat.zero_le _, rfl, fun i a d h => by simp at h, fun h => absurd rfl h⟩, by simp [reachBytes]⟩
    · rw [if_pos rfl] at hmm
      subst hmm
      subst hxe
      simp only [DataW.weights, ht, List.mem_cons, List.mem_append] at hwt
      have hlen47 : len * bytes ≤ reachBytes := by
        have := hwt _ (Or.inl rfl)
        rw [hby] at this
        simp only [List.length_map, List.length_range] at this
        exact Nat.le_trans (Nat.mul_le_mul_right _ (Nat.le_add_right _ _)) this
      have hwD : ∀ i, i < len → ∀ q ∈ (D i).weights P e, q ≤ reachBytes := fun i hi q hq =>
        hwt q (Or.inr (Or.inl (weightsAll_mem (List.mem_map.2 ⟨i, List.mem_range.2 hi, rfl⟩) q hq)))
      obtain ⟨css, hcss⟩ := Deep.choose_lt (α := List Value) (p := fun i d => w.cells? base (a.add (i * P.cellsOf e)) (P.cellsOf e) = some d ∧ ∃ a, S.rd w (Lo w.heap.size) a d) (n := len) (fun i hi => by
        obtain ⟨d, h1, h2⟩ := hx i (by omega)
        exact ⟨d, h1, he.2 H enc w base held n d _ h2 (hwD i hi)⟩)
      obtain ⟨l, hl'⟩ : ∃ l : List α, l.length = len ∧ ∀ (i : Nat) (a : α), l[i]? = some a → S.rd w (Lo w.heap.size) a (css i) := by
        have : ∀ k, k ≤ len → ∃ l : List α, l.length = k ∧ ∀ (i : Nat) (a : α), l[i]? = some a → S.rd w (Lo w.heap.size) a (css i) := by
          intro k
          induction k with
          | zero => intro _; exact ⟨[], rfl, fun i a h => by simp at h⟩
          | succ k ih =>
            intro hk
            obtain ⟨l, h1, h2⟩ := ih (by omega)
            obtain ⟨a, ha⟩ := (hcss k (by omega)).2
            refine ⟨l ++ [a], by simp [h1], fun i b hb => ?_⟩
            by_cases hi : i < l.length
            · rw [List.getElem?_append_left hi] at hb; exact h2 i b hb
            · rw [List.getElem?_append_right (by omega)] at hb
              have : i = l.length := by
                rcases Nat.lt_or_ge l.length i with h | h
                · rw [List.getElem?_eq_none (by simp; omega)] at hb; cases hb
                · omega
              subst this
              simp at hb
              subst hb
              rw [h1]; exact ha
        exact this len (Nat.le_refl _)
      obtain ⟨hlen, hrd⟩ := hl'
      refine ⟨l, ⟨some a, m, (List.range len).map css, by rw [hlen], by omega, hm, by simp [hlen], fun i b d hb hd => ?_, fun hne => ?_⟩, by show l.length * bytes ≤ reachBytes; rw [hlen]; exact hlen47⟩
      · have hi : i < len := by rw [← hlen]; exact (List.getElem?_eq_some_iff.1 hb).1
        rw [List.getElem?_map, List.getElem?_range hi] at hd
        simp at hd
        subst hd
        exact hrd i b hb
      · have h0 : 0 < len := by
          rcases Nat.eq_zero_or_pos len with h0 | h0
          · subst h0; simp at hne
          · exact h0
        have hcs : ∀ i, i < len → (css i).length = S.n ∧ ∀ j, j < S.n → w.cell? (a.add (i * S.n + j)) = (css i)[j]? := by
          intro i hi
          obtain ⟨_, h2, h3⟩ := World.cells?_some (hcss i hi).1
          rw [he.1] at h2 h3
          exact ⟨h2, fun j hj => by rw [← Deep.add_add]; exact h3 j hj⟩
        obtain ⟨b, off, spot⟩ := a
        have hc0 : w.cell? (⟨b, off, spot⟩ : Addr) = some ((css 0)[0]'(by rw [(hcs 0 h0).1]; exact hS)) := by
          have := (hcs 0 h0).2 0 hS
          rw [List.getElem?_eq_getElem (by rw [(hcs 0 h0).1]; exact hS)] at this
          simpa [Addr.add] using this
        have hspot : spot = none := by simpa [Addr.add] using World.cell?_spot hc0
        subst hspot
        refine ⟨b, off, rfl, World.block_lt_of_cell? w _ hc0, fun j u hu => ?_⟩
        have hflat : ∀ (m : Nat), m ≤ len → ((List.range m).map css).flatten.length = m * S.n ∧ ∀ (j : Nat) (u : Value), ((List.range m).map css).flatten[j]? = some u → w.cell? ⟨b, off + j, none⟩ = some u := by
          intro m
          induction m with
          | zero => intro _; simp
          | succ m ih =>
            intro hm'
            obtain ⟨i1, i2⟩ := ih (by omega)
            have hsp : ((List.range (m + 1)).map css).flatten = ((List.range m).map css).flatten ++ css m := by
              rw [List.range_succ, List.map_append, List.flatten_append]; simp
            refine ⟨by rw [hsp, List.length_append, i1, (hcs m (by omega)).1, Nat.add_mul, Nat.one_mul], fun j u hu => ?_⟩
            rw [hsp] at hu
            by_cases hj : j < ((List.range m).map css).flatten.length
            · rw [List.getElem?_append_left hj] at hu; exact i2 j u hu
            · rw [List.getElem?_append_right (by omega), i1] at hu
              have hjm : j - m * S.n < S.n := by have := (List.getElem?_eq_some_iff.1 hu).1; rw [(hcs m (by omega)).1] at this; exact this
              have := (hcs m (by omega)).2 (j - m * S.n) hjm
              rw [hu] at this
              have hadd : (⟨b, off, none⟩ : Addr).add (m * S.n + (j - m * S.n)) = ⟨b, off + j, none⟩ := by
                rw [i1] at hj
                rw [show m * S.n + (j - m * S.n) = j from by omega]
                unfold Addr.add; split <;> simp_all
              rwa [hadd] at this
        exact (hflat len (Nat.le_refl _)).2 j u hu⟩

def OpFW (P : Program) (fs : List Field) (off : Nat) {α : Type} (S : Sh α) : Prop :=
  ∀ (H : Type) (enc : TypeId × Value → H) (w : World) (base : Nat) (held : Bool) (fuel : Nat) (cs : List Value) (xs : List (DataW H × List MemPlace)), cs.length = off + S.n →
    (∀ (i : Nat) (f : Field), fs[i]? = some f → ∃ x, xs[i]? = some x ∧ DataW.trod enc P w base (fun _ => true) held fuel f.type ((cs.drop f.offset).take (P.cellsOf f.type)) = some x ∧ ∀ n ∈ x.1.weights P f.type, n ≤ reachBytes) → ∃ a, S.rd w (Lo w.heap.size) a (cs.drop off)
theorem opFW_one {P : Program} {f : Field} {off : Nat} {α : Type} {S : Sh α} (ho : f.offset = off) (h : OpensW P f.type S) : OpFW P [f] off S := by
  intro H enc w base held fuel cs xs hl hf
  obtain ⟨x, _, hx, hw⟩ := hf 0 f rfl
  rw [ho, h.1, List.take_of_length_le (by rw [List.length_drop, hl]; omega)] at hx
  exact h.2 H enc w base held fuel _ x hx hw
theorem opFW_cons {P : Program} {f : Field} {fs : List Field} {off : Nat} {α β : Type} {S : Sh α} {T : Sh β} (ho : f.offset = off) (h : OpensW P f.type S) (hr : OpFW P fs (off + S.n) T) : OpFW P (f :: fs) off (shP S T) := by
  intro H enc w base held fuel cs xs hl hf
  have hl' : cs.length = off + (S.n + T.n) := hl
  obtain ⟨x, _, hx, hw⟩ := hf 0 f rfl
  rw [ho, h.1] at hx
  obtain ⟨a, ha⟩ := h.2 H enc w base held fuel _ x hx hw
  obtain ⟨b, hb⟩ := hr H enc w base held fuel cs (xs.drop 1) (by omega) (fun i g hg => by
    obtain ⟨y, h1, h2⟩ := hf (i + 1) g (by simpa using hg)
    exact ⟨y, by rw [List.getElem?_drop, Nat.add_comm]; exact h1, h2⟩)
  refine ⟨(a, b), (cs.drop off).take S.n, cs.drop (off + S.n), ?_, ha, hb⟩
  rw [← List.drop_drop, List.take_append_drop]
theorem weightsEach_mem {H : Type} {P : Program} : ∀ {fs : List Field} {ds : List (DataW H)} {i : Nat} {f : Field} {d : DataW H}, fs[i]? = some f → ds[i]? = some d → ∀ n ∈ d.weights P f.type, n ∈ DataW.weightsEach P (fs.map (·.type)) ds := fun {fs ds i f d} hf hd n hn =>
  DataW.weights_mem_each (j := i) (t := f.type) (by rw [List.getElem?_map, hf]; rfl) hd n hn
theorem opensW_struct {P : Program} {t : TypeId} {fs : Array Field} {α : Type} {S : Sh α} (ht : P.underlying t = some (.struct fs)) (hc : P.cellsOf t = S.n) (h : OpFW P fs.toList 0 S) : OpensW P t S :=
  ⟨hc, fun H enc w base held fuel cs x hx hw => by
    obtain ⟨xs, n, _, rfl, hl, hxl, hg⟩ := DataW.trod_struct ht hx
    simp only [DataW.weights, ht] at hw
    have := h H enc w base held n cs xs (by rw [hl, hc]; omega) (fun i f hf => by
      have hf' : fs[i]? = some f := by simpa using hf
      have hi : i < xs.length := by rw [hxl]; exact (Array.getElem?_eq_some_iff.1 hf').1
      refine ⟨xs[i], List.getElem?_eq_getElem hi, by rw [hg i f hf', List.getElem?_eq_getElem hi], fun q hq => hw q ?_⟩
      exact weightsEach_mem hf (by rw [List.getElem?_map, List.getElem?_eq_getElem hi]; rfl) q hq)
    simpa using this⟩
theorem isIn_ofW {P : Program} {t : TypeId} {α : Type} {S : Sh α} (ho : OpensW P t S) {H : Type} {enc : TypeId × Value → H} {W : World} {base : Nat} {v : Value} {d : DataW H} {p : List MemPlace} {held : Bool}
    (h : DataW.Trod enc P W base (fun _ => true) held t v d p) (hw : ∀ n ∈ d.weights P t, n ≤ reachBytes) : IsIn S W v := by
  obtain ⟨fuel, hf⟩ := h
  exact ho.2 H enc W base held fuel _ _ hf hw
end Go.Proofs.YthikgdogfkjioaaGreatDoor
