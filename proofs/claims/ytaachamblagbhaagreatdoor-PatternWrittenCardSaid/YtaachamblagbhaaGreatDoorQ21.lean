/- The document's Weight, PatternOk, SamePattern. -/
import Derived.Test.YtaachamblagbhaaGreatDoorQ20
import Derived.Test.YtaachamblagbhaaGreatDoorQ7
namespace Go.Proofs.YtaachamblagbhaaGreatDoor
open Go.RowKit BigFrame
set_option linter.unusedVariables false
set_option linter.unusedSimpArgs false
set_option maxRecDepth 100000

theorem SetS.inv {k : Int} {s : List Rg} {mn mx : Int} {ks : List Rx} (h : SetS (.node k s mn mx ks)) : s.length ≤ 12 ∧ ∀ x ∈ ks, SetS x := by
  cases h with
  | node a b => exact ⟨a, b⟩
theorem rshaped_any (B : Nat) : ∀ (p : Rx) (d : Nat), d ≤ 31 → ∀ (v : Value) (w : World), B ≤ w.heap.size → RxB w B v p → SetS p →
    Calls Tryz.prog 12 #[v, .int .i64 (d : Int)] w fun e w' => e = .returned (.bool (shp d p)) ∧ Below w.heap.size w w'
  | .nil, d, hd, v, w, hB, hT, _ => by
    obtain rfl := hT.nil_inv
    have HE : Hid (shp d .nil = false) := Lib.hid (by rw [shp])
    clear hT
    go_enter Tryz.func12, Tryz.ntmps12
    go_wp2_with fail
    go_ret
    exact ⟨ret_eq (by rw [HE.out]; rfl), Below.refl _ _⟩
  | .node k s mn mx ks, d, hd, v, w, hB, hT, hS => rshaped_node k s mn mx ks d hd B v w hB hT hS.inv.1 (fun h30 x hx u W hBW hu => by
      have := rshaped_any B x (d + 1) (by omega) u W hBW hu (hS.inv.2 x hx)
      exact this)
termination_by p => SizeOf.sizeOf p
decreasing_by
  have := List.sizeOf_lt_of_mem hx
  simp only [Rx.node.sizeOf_spec]
  omega

/-- What Weight answers: the weight, where it isn't too great. -/
def WtA (x : Int) (p : Rx) : Prop := 1 ≤ x ∧ x ≤ 3001 ∧ ((x ≤ 60 ∧ x = (wei p : Int)) ∨ (60 < x ∧ 60 < wei p))
set_option maxHeartbeats 8000000 in
theorem rweight_node (k : Int) (s : List Rg) (mn mx : Int) (ks : List Rx) (B : Nat) (v : Value) (w : World) (hB : B ≤ w.heap.size) (hT : RxB w B v (.node k s mn mx ks)) (ht : tmsOk k mn mx = true)
    (ih : ∀ x ∈ ks, ∀ (u : Value) (W : World), B ≤ W.heap.size → RxB W B u x → Calls Tryz.prog 13 #[u] W fun e w' => ∃ y, WtA y x ∧ e = .returned (.int .i64 y) ∧ Below W.heap.size W w') :
    Calls Tryz.prog 13 #[v] w fun e w' => ∃ y, WtA y (.node k s mn mx ks) ∧ e = .returned (.int .i64 y) ∧ Below w.heap.size w w' := by
  obtain ⟨b, A, c, A', c', rfl, hb, z0, z1, z2, z3, z4, h1, h2, h3, h4, h5, h6⟩ := hT.node_inv
  by_cases hk1 : k = 1
  · as_aux_lemma =>
      have HE : Hid (WtA 1 (.node k s mn mx ks)) := Lib.hid (by
        have : wei (.node k s mn mx ks) = 1 := by rw [wei, if_pos hk1]
        exact ⟨by omega, by omega, .inl ⟨by omega, by rw [this]; rfl⟩⟩)
      subst hk1
      clear hT h5 h6 ih ht
      go_enter Tryz.func13, Tryz.ntmps13
      go_wp2_with fail
      go_ret
      exact ⟨1, HE.out, rfl, Below.refl _ _⟩
  have c1 : (k == 1) = false := by rw [beq_eq_false_iff_ne]; exact hk1
  have hwk := wei_kid (s := s) (mn := mn) (mx := mx) (ks := ks) hk1
  have hwe : wei (.node k s mn mx ks) = weiL ks * tmW k mn mx + 1 := by rw [wei, if_neg hk1]
  have htp := tmW_pos k mn mx
  have htl := tmW_le ht
  have hmul : weiL ks ≤ weiL ks * tmW k mn mx := Nat.le_mul_of_pos_right _ htp
  obtain ⟨W, hW⟩ : ∃ W, W = wei (.node k s mn mx ks) := ⟨_, rfl⟩
  have hWA : ∀ y, WtA y (.node k s mn mx ks) ↔ 1 ≤ y ∧ y ≤ 3001 ∧ ((y ≤ 60 ∧ y = (W : Int)) ∨ (60 < y ∧ 60 < W)) := fun y => by unfold WtA; rw [← hW]
  have HWA := Lib.hid hWA
  have HSUM : Hid (∀ i x, ks[i]? = some x → weiL (ks.take (i + 1)) = weiL (ks.take i) + wei x) := Lib.hid (fun i x hx => weiL_take hx)
  have HLE : Hid (∀ i, weiL (ks.take i) ≤ weiL ks) := Lib.hid (fun i => weiL_le)
  have HC : Hid (∀ W, Below B w W → W.cell? ⟨b, 0, none⟩ = some (.int .i64 k) ∧ W.cell? ⟨b, 2, none⟩ = some (.int .i64 mn) ∧ W.cell? ⟨b, 3, none⟩ = some (.int .i64 mx) ∧ W.cell? ⟨b, 4, none⟩ = some (.slice A' ks.length c')) :=
    Lib.hid (fun W hb2 => ⟨(hb2.cell (p := ⟨b, 0, none⟩) hb).trans z0, (hb2.cell (p := ⟨b, 2, none⟩) hb).trans z2, (hb2.cell (p := ⟨b, 3, none⟩) hb).trans z3, (hb2.cell (p := ⟨b, 4, none⟩) hb).trans z4⟩)
  have HKS := Lib.hid h6; have HIH := Lib.hid ih
  have HWE : Hid (W = weiL ks * tmW k mn mx + 1 ∧ weiL ks ≤ weiL ks * tmW k mn mx) := Lib.hid ⟨by rw [hW, hwe], hmul⟩
  have HTM : Hid (tmW k mn mx = if k = 6 then (max (max mn mx) 1).toNat else 1) := Lib.hid rfl
  unfold maxLen at h4
  obtain ⟨n, hn⟩ : ∃ n, n = ks.length := ⟨_, rfl⟩
  have HN := Lib.hid hn
  rw [← hn] at HC z4 h3 HKS
  clear hT h5 h6 ih hwe hwk hW hWA hmul hn z1 z2 z3 z4 h1 h2 ht
  generalize tmW k mn mx = tm at *
  go_enter Tryz.func13, Tryz.ntmps13
  go_wp2_with fail
  go_loopw [3, 4] (fun a i wr => ∃ j : Nat, j ≤ n ∧ i = .int .i64 (j : Int) ∧ a = .int .i64 ((weiL (ks.take j) : Nat) : Int) ∧ weiL (ks.take j) ≤ 60 ∧ Hid (Below w.heap.size w wr)) (fun _ i _ => n - (intOf i).toNat)
  case atStart => exact ⟨0, Nat.zero_le _, rfl, by simp [weiL], by simp [weiL], Below.refl _ _⟩
  case round =>
    as_aux_lemma =>
      obtain ⟨j, hj, rfl, rfl, hle, HBJ⟩ := hrel
      have hsj := HBJ.out.size
      obtain ⟨z0, z2, z3, z4⟩ := HC.out wr (HBJ.out.mono hB)
      obtain ⟨a, ha⟩ : ∃ a, a = weiL (ks.take j) := ⟨_, rfl⟩
      rw [← ha] at hle ⊢
      by_cases hlt : j < n
      · as_aux_lemma =>
          obtain ⟨x, hx⟩ : ∃ x, ks[j]? = some x := ⟨_, List.getElem?_eq_getElem (by rw [← HN.out]; exact hlt)⟩
          obtain ⟨kb, off, rfl, hkb, hkc⟩ := HKS.out (by omega)
          obtain ⟨u, zu, hu⟩ := hkc j x hx
          have zj := ((HBJ.out.mono hB).cell (p := ⟨kb, off + j, none⟩) hkb).trans zu
          obtain ⟨up, rfl⟩ := hu.ptr
          have HI := Lib.hid (HIH.out x (List.mem_of_getElem? hx) (.pointer up) wr (by omega) (RxB.below hu (HBJ.out.mono hB)))
          have hsum := HSUM.out j x hx
          rw [← ha] at hsum
          have HS := Lib.hid hsum
          have HL := Lib.hid (HLE.out (j + 1))
          obtain ⟨wo, rfl⟩ : ∃ wo : World, wo = wr := ⟨_, rfl⟩
          clear hkc zu hu hx ha hsum z0 z2 z3
          go_wp2_with fail
          refine HI.out.mono ?_
          clear HI
          rintro e w5 ⟨y, hy, rfl, hb5⟩
          have HB5 := Lib.hid (HBJ.out.trans (hb5.mono (by omega)))
          have HY := Lib.hid hy
          obtain ⟨y1, y2, -⟩ := hy
          clear hb5
          by_cases hbig : 60 < (a : Int) + y
          · as_aux_lemma =>
              have HE : Hid (WtA 61 (.node k s mn mx ks)) := Lib.hid (by
                rw [HWA.out]
                have h1 := HWE.out.1; have h2 := HWE.out.2; have h3 := HS.out; have h4 := HL.out
                refine ⟨by omega, by omega, .inr ⟨by omega, ?_⟩⟩
                rcases HY.out.2.2 with ⟨q1, q2⟩ | ⟨q1, q2⟩ <;> omega)
              have hd : decide (60 < (a : Int) + y) = true := decide_eq_true hbig
              go_wp2_with fail
              go_ret
              exact ⟨61, HE.out, rfl, HB5.out⟩
          · as_aux_lemma =>
              have hd : decide (60 < (a : Int) + y) = false := decide_eq_false hbig
              have hnew : (a : Int) + y = ((weiL (ks.take (j + 1)) : Nat) : Int) ∧ weiL (ks.take (j + 1)) ≤ 60 := by
                have h3 := HS.out
                rcases HY.out.2.2 with ⟨q1, q2⟩ | ⟨q1, q2⟩ <;> omega
              have HNW := Lib.hid hnew
              clear hnew
              go_wp2_with fail
              go_roundw
              case rel => exact ⟨j + 1, by omega, by go_num, by rw [HNW.out.1], HNW.out.2, HB5⟩
              case measure => simp [intOf]; omega
      · as_aux_lemma =>
          obtain rfl : j = n := by omega
          have hak : a = weiL ks := by rw [ha, List.take_of_length_le (by rw [← HN.out]; exact Nat.le_refl _)]
          have HAK := Lib.hid hak
          clear ha hak
          by_cases hk6 : k = 6
          · as_aux_lemma =>
              subst hk6
              have htm := HTM.out
              rw [if_pos rfl] at htm
              have hp0 : 0 ≤ (a : Int) * (max (max mn mx) 1) := Int.mul_nonneg (by omega) (by omega)
              have hpe : (a : Int) * (max (max mn mx) 1) = ((a * tm : Nat) : Int) := by
                rw [show (max (max mn mx) 1) = (tm : Int) by omega]; exact (Int.natCast_mul a tm).symm
              have hp1 : a * tm ≤ 3000 := Nat.mul_le_mul hle htl
              obtain ⟨P, hP⟩ : ∃ P : Nat, P = a * tm := ⟨_, rfl⟩
              rw [← hP] at hpe hp1
              have HE : Hid (WtA ((P : Int) + 1) (.node 6 s mn mx ks)) := Lib.hid (by
                rw [HWA.out]
                have h1 := HWE.out.1
                rw [← HAK.out, ← hP] at h1
                omega)
              have HM1 : Hid (∀ W, Calls Tryz.prog 24 #[.int .i64 mn, .int .i64 mx] W fun e w' => e = .returned (.int .i64 (max mn mx)) ∧ w' = W) := Lib.hid (fun W => most_any mn mx W)
              have HM2 : Hid (∀ W, Calls Tryz.prog 24 #[.int .i64 (max mn mx), .int .i64 1] W fun e w' => e = .returned (.int .i64 (max (max mn mx) 1)) ∧ w' = W) := Lib.hid (fun W => most_any (max mn mx) 1 W)
              have HPE := Lib.hid hpe
              generalize max (max mn mx) 1 = t2 at *
              generalize max mn mx = t1 at *
              clear hP htm hpe
              go_wp2_with fail
              go_quiet ((first | (go_at_call 24; exact Calls.quiet_of_same (HM1.out _)) | (go_at_call 24; exact Calls.quiet_of_same (HM2.out _))))
              have hwr : wrap64 ((a : Int) * t2) = (P : Int) := by rw [HPE.out]; unfold wrap64; omega
              rw [hwr]
              clear hwr
              go_wp2_with fail
              go_ret
              exact ⟨_, HE.out, rfl, HBJ.out.trans ((dn_below' _ _).mono hsj)⟩
          · as_aux_lemma =>
              have htm := HTM.out
              rw [if_neg hk6] at htm
              have c6 : (k == 6) = false := by rw [beq_eq_false_iff_ne]; exact hk6
              have HE : Hid (WtA ((a : Int) + 1) (.node k s mn mx ks)) := Lib.hid (by
                rw [HWA.out]
                have h1 := HWE.out.1
                rw [← HAK.out, htm] at h1
                omega)
              clear htm
              go_wp2_with fail
              go_ret
              exact ⟨_, HE.out, rfl, HBJ.out⟩
end Go.Proofs.YtaachamblagbhaaGreatDoor
