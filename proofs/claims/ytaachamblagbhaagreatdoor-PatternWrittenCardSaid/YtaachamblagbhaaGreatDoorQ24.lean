/- The program's weight and Ok. · The program's Write. · The law's told: one error on both sides, no place. -/
import Derived.Test.YtaachamblagbhaaGreatDoorQ23
import Derived.Test.YtaachamblagbhaaGreatDoorQ21
import Derived.Test.YtaachamblagbhaaGreatDoorQ22
import Derived.Test.YtaachamblagbhaaGreatDoorQ6
namespace Go.Proofs.YtaachamblagbhaaGreatDoor
open Go.RowKit BigFrame
set_option linter.unusedVariables false
set_option linter.unusedSimpArgs false
set_option maxRecDepth 100000

theorem pshaped_any (B : Nat) : ∀ (p : Rx) (d : Nat), d ≤ 31 → ∀ (v : Value) (w : World), B ≤ w.heap.size → RxB w B v p → SetS p →
    Calls Tryz.prog 14 #[v, .int .i64 (d : Int)] w fun e w' => e = .returned (.bool (shp d p)) ∧ Below w.heap.size w w'
  | .nil, d, hd, v, w, hB, hT, _ => by
    obtain rfl := hT.nil_inv
    have HE : Hid (shp d .nil = false) := Lib.hid (by rw [shp])
    clear hT
    go_enter Tryz.func14, Tryz.ntmps14
    go_wp2_with fail
    go_quiet (fail)
    go_wp2_with fail
    go_ret
    exact ⟨ret_eq (by rw [HE.out]; rfl), dn_belowP _ _⟩
  | .node k s mn mx ks, d, hd, v, w, hB, hT, hS => pshaped_node k s mn mx ks d hd B v w hB hT hS.inv.1 (fun h30 x hx u W hBW hu => by
      have := pshaped_any B x (d + 1) (by omega) u W hBW hu (hS.inv.2 x hx)
      exact this)
termination_by p => SizeOf.sizeOf p
decreasing_by
  have := List.sizeOf_lt_of_mem hx
  simp only [Rx.node.sizeOf_spec]
  omega

set_option maxHeartbeats 8000000 in
theorem pweight_node (k : Int) (s : List Rg) (mn mx : Int) (ks : List Rx) (B : Nat) (v : Value) (w : World) (hB : B ≤ w.heap.size) (hT : RxB w B v (.node k s mn mx ks)) (ht : tmsOk k mn mx = true)
    (ih : ∀ x ∈ ks, ∀ (u : Value) (W : World), B ≤ W.heap.size → RxB W B u x → Calls Tryz.prog 15 #[u] W fun e w' => e = .returned (.int .i64 ((wtc x : Nat) : Int)) ∧ Below W.heap.size W w') :
    Calls Tryz.prog 15 #[v] w fun e w' => e = .returned (.int .i64 ((wtc (.node k s mn mx ks) : Nat) : Int)) ∧ Below w.heap.size w w' := by
  obtain ⟨b, A, c, A', c', rfl, hb, z0, z1, z2, z3, z4, h1, h2, h3, h4, h5, h6⟩ := hT.node_inv
  by_cases hk1 : k = 1
  · as_aux_lemma =>
      have HE : Hid (wtc (.node k s mn mx ks) = 1) := Lib.hid (by unfold wtc; rw [wei, if_pos hk1]; rfl)
      subst hk1
      clear hT h5 h6 ih ht
      go_enter Tryz.func15, Tryz.ntmps15
      go_wp2_with fail
      go_ret
      exact ⟨ret_eq (by rw [HE.out]; rfl), Below.refl _ _⟩
  have c1 : (k == 1) = false := by rw [beq_eq_false_iff_ne]; exact hk1
  have hwe : wei (.node k s mn mx ks) = weiL ks * tmW k mn mx + 1 := by rw [wei, if_neg hk1]
  have htp := tmW_pos k mn mx
  have htl := tmW_le ht
  obtain ⟨W, hW⟩ : ∃ W, W = wtc (.node k s mn mx ks) := ⟨_, rfl⟩
  rw [← hW]
  have HWE : Hid (W = min (weiL ks * tmW k mn mx + 1) 61) := Lib.hid (by rw [hW]; unfold wtc; rw [hwe])
  have HSUM : Hid (∀ i x, ks[i]? = some x → weiL (ks.take (i + 1)) = weiL (ks.take i) + wei x) := Lib.hid (fun i x hx => weiL_take hx)
  have HC : Hid (∀ W, Below B w W → W.cell? ⟨b, 0, none⟩ = some (.int .i64 k) ∧ W.cell? ⟨b, 2, none⟩ = some (.int .i64 mn) ∧ W.cell? ⟨b, 3, none⟩ = some (.int .i64 mx) ∧ W.cell? ⟨b, 4, none⟩ = some (.slice A' ks.length c')) :=
    Lib.hid (fun W hb2 => ⟨(hb2.cell (p := ⟨b, 0, none⟩) hb).trans z0, (hb2.cell (p := ⟨b, 2, none⟩) hb).trans z2, (hb2.cell (p := ⟨b, 3, none⟩) hb).trans z3, (hb2.cell (p := ⟨b, 4, none⟩) hb).trans z4⟩)
  have HKS := Lib.hid h6; have HIH := Lib.hid ih
  have HTM : Hid (tmW k mn mx = if k = 6 then (max (max mn mx) 1).toNat else 1) := Lib.hid rfl
  unfold maxLen at h4
  obtain ⟨n, hn⟩ : ∃ n, n = ks.length := ⟨_, rfl⟩
  have HN := Lib.hid hn
  rw [← hn] at HC z4 h3 HKS
  clear hT h5 h6 ih hwe hW hn z1 z2 z3 h1 h2 ht
  generalize tmW k mn mx = tm at *
  go_enter Tryz.func15, Tryz.ntmps15
  go_wp2_with fail
  go_loopw [3, 5, 16] (fun a u i wr => ∃ j x : Nat, j ≤ n ∧ i = .int .i64 (j : Int) ∧ a = .int .i64 (x : Int) ∧ x ≤ 61 ∧ Hid (x = min (weiL (ks.take j)) 61) ∧ Hid (Below w.heap.size w wr)) (fun _ _ i _ => n - (intOf i).toNat)
  case atStart => exact ⟨0, 0, Nat.zero_le _, rfl, rfl, by omega, Lib.hid (by simp [weiL]), Below.refl _ _⟩
  case round =>
    as_aux_lemma =>
      obtain ⟨j, a, hj, rfl, rfl, hle, HX, HBJ⟩ := hrel
      have hsj := HBJ.out.size
      clear z0 z4
      obtain ⟨z0, z2, z3, z4⟩ := HC.out wr (HBJ.out.mono hB)
      by_cases hlt : j < n
      · as_aux_lemma =>
          obtain ⟨x, hx⟩ : ∃ x, ks[j]? = some x := ⟨_, List.getElem?_eq_getElem (by rw [← HN.out]; exact hlt)⟩
          obtain ⟨kb, off, rfl, hkb, hkc⟩ := HKS.out (by omega)
          obtain ⟨u, zu, hu⟩ := hkc j x hx
          have zj := ((HBJ.out.mono hB).cell (p := ⟨kb, off + j, none⟩) hkb).trans zu
          obtain ⟨up, rfl⟩ := hu.ptr
          have HI := Lib.hid (HIH.out x (List.mem_of_getElem? hx) (.pointer up) wr (by omega) (RxB.below hu (HBJ.out.mono hB)))
          have hsum := HSUM.out j x hx
          have HS := Lib.hid hsum
          obtain ⟨y, hy⟩ : ∃ y, y = wtc x := ⟨_, rfl⟩
          have hy61 : y ≤ 61 := by rw [hy]; unfold wtc; omega
          have HNW : Hid (min ((a : Int) + y) 61 = ((min (weiL (ks.take (j + 1))) 61 : Nat) : Int)) := Lib.hid (by
            have h1 := HS.out; have h2 := HX.out
            unfold wtc at hy
            omega)
          rw [← hy] at HI
          obtain ⟨wo, rfl⟩ : ∃ wo : World, wo = wr := ⟨_, rfl⟩
          clear hkc zu hu hx hsum hy z0 z2 z3
          go_wp2_with fail
          refine HI.out.mono ?_
          clear HI
          rintro e w5 ⟨rfl, hb5⟩
          have HB5 := Lib.hid (HBJ.out.trans (hb5.mono (by omega)))
          clear hb5
          go_wp2_with fail
          go_roundw
          case rel => exact ⟨j + 1, min (weiL (ks.take (j + 1))) 61, by omega, by go_num, by rw [HNW.out], by omega, Lib.hid rfl, HB5⟩
          case measure => simp [intOf]; omega
      · as_aux_lemma =>
          obtain rfl : j = n := by omega
          have hak : a = min (weiL ks) 61 := by rw [HX.out, List.take_of_length_le (by rw [← HN.out]; exact Nat.le_refl _)]
          have HAK := Lib.hid hak
          clear hak HX
          by_cases hk6 : k = 6
          · as_aux_lemma =>
              subst hk6
              have htm := HTM.out
              rw [if_pos rfl] at htm
              obtain ⟨t, ht⟩ : ∃ t, (if (if mn < mx then mx else mn) < 1 then 1 else if mn < mx then mx else mn) = t := ⟨_, rfl⟩
              have htt : t = (tm : Int) := by
                rw [htm, ← ht]
                repeat' split
                all_goals omega
              obtain ⟨P, hP⟩ : ∃ P : Nat, P = a * tm := ⟨_, rfl⟩
              have hp1 : a * tm ≤ 61 * 50 := Nat.mul_le_mul hle htl
              rw [← hP] at hp1
              have hpe : (a : Int) * t = (P : Int) := by rw [htt, hP]; exact (Int.natCast_mul a tm).symm
              have HE : Hid (min ((P : Int) + 1) 61 = (W : Int)) := Lib.hid (by
                rw [HWE.out, hP, HAK.out]
                rcases Nat.le_total (weiL ks) 61 with q | q
                · rw [Nat.min_eq_left q]; omega
                · rw [Nat.min_eq_right q]
                  have e1 : 61 * 1 ≤ 61 * tm := Nat.mul_le_mul_left _ htp
                  have e2 : 61 * tm ≤ weiL ks * tm := Nat.mul_le_mul_right _ q
                  omega)
              have HWR : Hid (wrap64 ((a : Int) * (if (if mn < mx then mx else mn) < 1 then 1 else if mn < mx then mx else mn)) = (P : Int)) := Lib.hid (by rw [ht, hpe]; unfold wrap64; omega)
              clear hP htt htm hpe htp htl ht
              go_wp2_with fail
              go_quiet (fail)
              rw [HWR.out]
              have HB6 := Lib.hid (HBJ.out.trans ((dn_belowP wr nq).mono (by omega)))
              go_wp2_with fail
              all_goals
                go_ret
                exact ⟨ret_eq (by rw [← HE.out]; rfl), HB6.out⟩
          · as_aux_lemma =>
              have htm := HTM.out
              rw [if_neg hk6] at htm
              have c6 : (k == 6) = false := by rw [beq_eq_false_iff_ne]; exact hk6
              have HE : Hid (min ((a : Int) + 1) 61 = (W : Int)) := Lib.hid (by
                rw [HWE.out, htm, HAK.out]
                omega)
              clear htm
              go_wp2_with fail
              go_ret
              exact ⟨ret_eq (by rw [← HE.out]; rfl), HBJ.out⟩

theorem pweight_any (B : Nat) : ∀ (p : Rx) (d : Nat), shp d p = true → ∀ (v : Value) (w : World), B ≤ w.heap.size → RxB w B v p →
    Calls Tryz.prog 15 #[v] w fun e w' => e = .returned (.int .i64 ((wtc p : Nat) : Int)) ∧ Below w.heap.size w w'
  | .nil, d, h, v, w, hB, hT => by rw [shp] at h; cases h
  | .node k s mn mx ks, d, h, v, w, hB, hT => pweight_node k s mn mx ks B v w hB hT (shp_node h).2.2.1 (fun x hx u W hBW hu => pweight_any B x (d + 1) ((shp_node h).2.2.2.2 x hx) u W hBW hu)
termination_by p => SizeOf.sizeOf p
decreasing_by
  have := List.sizeOf_lt_of_mem hx
  simp only [Rx.node.sizeOf_spec]
  omega

set_option maxHeartbeats 4000000 in
theorem patOk_any (B : Nat) (p : Rx) (v : Value) (w : World) (hB : B ≤ w.heap.size) (hT : RxB w B v p) (hS : SetS p) :
    Calls Tryz.prog 7 #[v] w fun e w' => e = .returned (.bool (okX p)) ∧ Below w.heap.size w w' := by
  have HA := Lib.hid (pshaped_any B p 0 (by omega) v w hB hT hS)
  obtain ⟨vp, rfl⟩ := hT.ptr
  cases hsh : shp 0 p with
  | false =>
    as_aux_lemma =>
      have HE : Hid (okX p = false) := Lib.hid (by unfold okX; rw [hsh]; rfl)
      rw [hsh] at HA
      clear hT hsh
      go_enter Tryz.func7, Tryz.ntmps7
      go_wp2_with fail
      refine HA.out.mono ?_
      rintro e w1 ⟨rfl, hb1⟩
      have HB1 := Lib.hid hb1
      clear hb1
      go_wp2_with fail
      go_ret
      exact ⟨ret_eq (by rw [HE.out]; rfl), HB1.out⟩
  | true =>
    as_aux_lemma =>
      have HW : Hid (∀ W, Below B w W → B ≤ W.heap.size → _) := Lib.hid (fun W hb hB2 => pweight_any B p 0 hsh (.pointer vp) W hB2 (RxB.below hT hb))
      have HE : Hid (decide (((wtc p : Nat) : Int) ≤ 60) = okX p) := Lib.hid (by
        unfold okX wtc
        rw [hsh]
        by_cases q : wei p ≤ 60
        · rw [decide_eq_true q, decide_eq_true (by omega)]; rfl
        · rw [decide_eq_false q, decide_eq_false (by omega)]; rfl)
      rw [hsh] at HA
      generalize wtc p = y at *
      clear hT hsh
      go_enter Tryz.func7, Tryz.ntmps7
      go_wp2_with fail
      refine HA.out.mono ?_
      rintro e w1 ⟨rfl, hb1⟩
      have HB1 := Lib.hid hb1
      have hs1 := hb1.size
      have HW1 := Lib.hid (HW.out w1 (hb1.mono hB) (by omega))
      clear hb1
      go_wp2_with fail
      refine HW1.out.mono ?_
      rintro e w2 ⟨rfl, hb2⟩
      have HB2 := Lib.hid (HB1.out.trans (hb2.mono hs1))
      clear hb2
      go_wp2_with fail
      go_ret
      exact ⟨ret_eq (by rw [← HE.out]; rfl), HB2.out⟩
end Go.Proofs.YtaachamblagbhaaGreatDoor
namespace Go.Proofs.YtaachamblagbhaaGreatDoor
open Go.RowKit BigFrame
set_option linter.unusedVariables false
set_option linter.unusedSimpArgs false
set_option maxRecDepth 100000

theorem ptext_any (B : Nat) : ∀ (p : Rx) (d : Nat), shp d p = true → SetS p → wei p ≤ 60 → ∀ (v : Value) (w : World), B ≤ w.heap.size → Tz w B → RxB w B v p →
    Calls Tryz.prog 16 #[v] w fun e w' => e = .returned (bs (txX p)) ∧ Below w.heap.size w w'
  | .nil, d, h, _, _, v, w, hB, ht, hT => by rw [shp] at h; cases h
  | .node k s mn mx ks, d, h, hS, hw, v, w, hB, ht, hT => text_node k s mn mx ks d h hS hw B v w hB ht hT (fun x hx hwx u W hBW htW hu => ptext_any B x (d + 1) ((shp_node h).2.2.2.2 x hx) (hS.inv.2 x hx) hwx u W hBW htW hu)
termination_by p => SizeOf.sizeOf p
decreasing_by
  have := List.sizeOf_lt_of_mem hx
  simp only [Rx.node.sizeOf_spec]
  omega

set_option maxHeartbeats 4000000 in
theorem write_ok (B : Nat) (p : Rx) (v : Value) (w : World) (hB : B ≤ w.heap.size) (ht : Tz w B) (hT : RxB w B v p) (hS : SetS p) (hok : okX p = true) :
    Calls Tryz.prog 8 #[v] w fun e w' => e = .returned (.tuple #[bs (txX p), .nilIface]) ∧ Below w.heap.size w w' := by
  have HA := Lib.hid (patOk_any B p v w hB hT hS)
  have hlen := (tx_valid hok hS).2
  have hok2 := hok
  unfold okX at hok2
  rw [Bool.and_eq_true, decide_eq_true_eq] at hok2
  have HTX : Hid (∀ W, Below B w W → B ≤ W.heap.size → _) := Lib.hid (fun W hb hBW => ptext_any B p 0 hok2.1 hS hok2.2 v W hBW (ht.below hb) (RxB.below hT hb))
  obtain ⟨vp, rfl⟩ := hT.ptr
  rw [hok] at HA
  obtain ⟨t, htt⟩ : ∃ t, t = txX p := ⟨_, rfl⟩
  rw [← htt] at HTX hlen ⊢
  have hd : decide ((65536 : Int) < (t.length : Int)) = false := decide_eq_false (by omega)
  clear hok hok2 hS hT ht htt
  go_enter Tryz.func8, Tryz.ntmps8
  go_wp2_with fail
  refine HA.out.mono ?_
  clear HA
  rintro e w1 ⟨rfl, hb1⟩
  have hs1 := hb1.size
  have HT1 := Lib.hid (HTX.out w1 (hb1.mono hB) (by omega))
  have HB1 := Lib.hid hb1
  unfold bs at HT1
  clear hb1 HTX
  go_wp2_with fail
  refine HT1.out.mono ?_
  rintro e w2 ⟨rfl, hb2⟩
  have HB2 := Lib.hid (HB1.out.trans (hb2.mono hs1))
  clear hb2
  go_wp2_with fail
  go_ret2
  exact ⟨by unfold bs; rfl, HB2.out⟩
set_option maxHeartbeats 4000000 in
theorem write_bad (B : Nat) (p : Rx) (v : Value) (w : World) (hB : B ≤ w.heap.size) (E : Nat → Addr) (hE : ErW w B E) (hT : RxB w B v p) (hS : SetS p) (hok : okX p = false) :
    Calls Tryz.prog 8 #[v] w fun e w' => e = .returned (.tuple #[bs [], ew (E 0)]) ∧ Below w.heap.size w w' := by
  have HA := Lib.hid (patOk_any B p v w hB hT hS)
  obtain ⟨vp, rfl⟩ := hT.ptr
  rw [hok] at HA
  have HE := Lib.hid hE
  clear hok hS hT hE
  go_enter Tryz.func8, Tryz.ntmps8
  go_wp2_with fail
  refine HA.out.mono ?_
  clear HA
  rintro e w1 ⟨rfl, hb1⟩
  have hs1 := hb1.size
  have z : w1.cell? ⟨0, 0, none⟩ = some (ew (E 0)) := (HE.out.below (hb1.mono hB)).g 0 (by omega)
  have HB1 := Lib.hid hb1
  clear hb1
  go_wp2_with fail
  go_quiet (fail)
  have HB2 := Lib.hid (HB1.out.trans ((dn_belowP w1 nq).mono hs1))
  go_wp2_with fail
  go_ret2
  exact ⟨rfl, HB2.out⟩
end Go.Proofs.YtaachamblagbhaaGreatDoor
namespace Go.Proofs.YtaachamblagbhaaGreatDoor
open Go.RowKit BigFrame
set_option linter.unusedVariables false
set_option linter.unusedSimpArgs false
set_option maxRecDepth 100000

theorem told_same (i : Nat) (hi : i < 7) (w : World) (B : Nat) (hB : B ≤ w.heap.size) (E : Nat → Addr) (hE : ErW w B E) :
    Calls Tryz.prog 9 #[ew (E i), ew (E i), .int .i64 (-1)] w fun e w' => e = .returned (.bool true) ∧ Below w.heap.size w w' := by
  have HC := Lib.hid (code_err i hi w B hB E hE)
  have HE := Lib.hid hE
  clear hE
  go_enter Tryz.func9, Tryz.ntmps9
  go_wp2_with fail
  refine HC.out.mono ?_
  rintro e w5 ⟨rfl, hb5⟩
  have HD := Lib.hid (code_err i hi w5 B (Nat.le_trans hB hb5.size) E (HE.out.below (hb5.mono hB)))
  have HB := Lib.hid hb5
  clear hb5
  go_wp2_with fail
  refine HD.out.mono ?_
  rintro e w6 ⟨rfl, hb6⟩
  have HF := Lib.hid (HB.out.trans (hb6.mono HB.out.size))
  clear hb6
  go_wp2_with fail
  go_ret
  exact ⟨ret_eq (by simp), HF.out⟩
end Go.Proofs.YtaachamblagbhaaGreatDoor
