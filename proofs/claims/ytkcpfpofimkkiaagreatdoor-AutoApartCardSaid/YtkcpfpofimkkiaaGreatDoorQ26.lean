/- The program's thick, walked. -/
import Derived.Test.YtkcpfpofimkkiaaGreatDoorQ17
import Derived.Test.YtkcpfpofimkkiaaGreatDoorQ21
namespace Go.Proofs.YtkcpfpofimkkiaaGreatDoor
open Go.RowKit BigFrame
set_option linter.unusedVariables false
set_option linter.unusedSimpArgs false
set_option maxRecDepth 100000

theorem Blk.own {w : World} {g base : Nat} {l : List Int} (h : Blk w g 3 (iv l)) (hb : base ≤ g) (hl : l.length ≤ maxLen) : w.ownsRow base 3 1 (.slice (some ⟨g, 0, none⟩) l.length l.length) l.length (iv l) :=
  ⟨by rw [iv_len, Nat.mul_one], .inr ⟨g, l.length, (iv l).toArray, rfl, hb, h, Nat.le_refl _, hl, by simp [iv_len], by rw [List.toList_toArray]; rw [Nat.mul_one]; exact List.take_of_length_le (by rw [iv_len]; exact Nat.le_refl _)⟩⟩
theorem mk_ints {n : Nat} (hn : n ≤ 1000000) (w : World) : (Instr.makeSlice 37 (.int .i64 (n : Int)) (.int .i64 (n : Int))).run Tryz.prog w = .ok (.slice (some ⟨w.heap.size, 0, none⟩) n n) (w.alloc (.cells (zs (.int .i64 0) n) 3)) :=
  mk_row elInts rfl .i64 .i64 n _ (by omega) (by omega) (by omega) w

set_option maxHeartbeats 8000000 in
theorem thick_any (A Ax Ay : Option Addr) (n c P cx cy K : Nat) (l : List St) (C : List (List Rg)) (X : List Rg) (Y : List Int) (w : World) (B : Nat) (hB : B ≤ w.heap.size) (h : (shL shState).rd w (Lo B) l [.slice A n c]) (hok : okA l = true) (hl : l.length = n) (hn : n ≤ 500)
    (hX : RdG w B Ax X) (hXl : X.length = P) (hXc : P ≤ cx ∧ cx ≤ maxLen) (hY : RdI w B Ay Y) (hYc : P ≤ cy ∧ cy ≤ maxLen) (hA : AlP C X Y) (hK : C.length = K) (hKn : K ≤ 1000) (hPn : P ≤ 1000000) (hC : Cls l C.length (repOf C) (clsOf C)) :
    Calls Tryz.prog 16 #[.agg #[.slice A n c], .agg #[.slice Ax P cx, .slice Ay P cy, .int .i64 (K : Int)]] w fun e w' => ∃ Ar Am cr cm, e = .returned (.agg #[.int .i64 (K : Int), .slice Ar (n + 1) cr, .slice Am (n + 1) cm]) ∧ n + 1 ≤ cr ∧ cr ≤ maxLen ∧ n + 1 ≤ cm ∧ cm ≤ maxLen ∧ RdI w' w'.heap.size Ar (fulR l) ∧ RdM w' w'.heap.size Am (fulM l C) ∧ Below w.heap.size w w' := by
  have Hl := Lib.hid hl; have H := Lib.hid h; have HC := Lib.hid hC; have HK := Lib.hid hK; have HOK := Lib.hid hok; have HX := Lib.hid hX; have HY := Lib.hid hY; have HA := Lib.hid hA; have HXL := Lib.hid hXl
  have hmk := fun w => mk_ints (n := K) (by omega) w
  obtain ⟨W0, hW0⟩ : ∃ W0, W0 = (((w.alloc (.cells #[.slice A n c] 24)).alloc (.cells #[.slice Ax P cx, .slice Ay P cy, .int .i64 (K : Int)] 39)).alloc (.cells #[.int .i64 0, .slice none 0 0, .slice none 0 0] 46)).alloc (.cells #[.int .i64 (K : Int), .slice none 0 0, .slice none 0 0] 46) := ⟨_, rfl⟩
  obtain ⟨g, hg⟩ : ∃ g, w.heap.size = g := ⟨_, rfl⟩
  have hs0 : W0.heap.size = g + 1 + 1 + 1 + 1 := by rw [hW0, ← hg]; simp
  have hb0 : Below g w W0 := by rw [hW0, ← hg]; exact ((((Below.refl _ _).alloc (Nat.le_refl _) _).alloc (by simp) _).alloc (by simp only [World.size_alloc]; omega) _).alloc (by simp only [World.size_alloc]; omega) _
  have hka : Blk W0 g 24 [.slice A n c] := by
    rw [hW0, ← hg]
    exact (((Blk.new w 24 [.slice A n c]).alloc _).alloc _).alloc _
  have hkx : Blk W0 (g + 1) 39 [.slice Ax P cx, .slice Ay P cy, .int .i64 (K : Int)] := by
    have := Blk.new (w.alloc (.cells #[.slice A n c] 24)) 39 [.slice Ax P cx, .slice Ay P cy, .int .i64 (K : Int)]
    rw [show (w.alloc (.cells #[.slice A n c] 24)).heap.size = g + 1 by rw [← hg]; simp] at this
    rw [hW0]; exact (this.alloc _).alloc _
  have hkr : Blk W0 (g + 1 + 1) 46 [.int .i64 0, .slice none 0 0, .slice none 0 0] := by
    have := Blk.new ((w.alloc (.cells #[.slice A n c] 24)).alloc (.cells #[.slice Ax P cx, .slice Ay P cy, .int .i64 (K : Int)] 39)) 46 [.int .i64 0, .slice none 0 0, .slice none 0 0]
    rw [show ((w.alloc (.cells #[.slice A n c] 24)).alloc (.cells #[.slice Ax P cx, .slice Ay P cy, .int .i64 (K : Int)] 39)).heap.size = g + 1 + 1 by rw [← hg]; simp] at this
    rw [hW0]; exact this.alloc _
  have hkd : Blk W0 (g + 1 + 1 + 1) 46 [.int .i64 (K : Int), .slice none 0 0, .slice none 0 0] := by
    have := Blk.new (((w.alloc (.cells #[.slice A n c] 24)).alloc (.cells #[.slice Ax P cx, .slice Ay P cy, .int .i64 (K : Int)] 39)).alloc (.cells #[.int .i64 0, .slice none 0 0, .slice none 0 0] 46)) 46 [.int .i64 (K : Int), .slice none 0 0, .slice none 0 0]
    rw [show (((w.alloc (.cells #[.slice A n c] 24)).alloc (.cells #[.slice Ax P cx, .slice Ay P cy, .int .i64 (K : Int)] 39)).alloc (.cells #[.int .i64 0, .slice none 0 0, .slice none 0 0] 46)).heap.size = g + 1 + 1 + 1 by rw [← hg]; simp] at this
    rw [hW0]; exact this
  have HB0 := Lib.hid hb0; have HKD := Lib.hid hkd; have HG := Lib.hid hg; have HS0 := Lib.hid hs0; have HKR := Lib.hid hkr; have HKA := Lib.hid hka; have HKX := Lib.hid hkx
  clear h hok hl hX hXl hY hA hK hC hb0 hs0 hka hkx hkr hkd
  go_enter Tryz.func16, Tryz.ntmps16
  go_wp2_with fail
  rw [← hW0]
  clear hW0
  have hgB : B ≤ g := by omega
  clear hg
  go_loopw [22] (fun ix wr => ∃ (k : Nat) (vr vm : Value) (vs : List Value), k ≤ n + 1 ∧ ix = .int .i64 (k : Int) ∧ Hid (Blk wr (g + 1 + 1 + 1) 46 [.int .i64 (K : Int), vr, vm]) ∧ Hid (wr.ownsRow (g + 4) 3 1 vr k (iv ((List.range k).map (rul l)))) ∧ Hid (OwM wr (g + 4) vm vs ((List.range k).map (fulRow l C))) ∧ Hid (∀ (j : Nat) (u : Value), vs[j]? = some u → u.ownBlock = none ∨ u.ownBlock ≠ vr.ownBlock) ∧ Hid (Below (g + 3) W0 wr)) (fun ix _ => n + 1 - (intOf ix).toNat)
  case atStart => exact ⟨0, .slice none 0 0, .slice none 0 0, [], Nat.zero_le _, rfl, HKD.out, World.ownsRow_nil _ _ _ _, OwM.nil _ _, fun j u h => (by simp at h), Below.refl _ _⟩
  case round =>
    as_aux_lemma =>
      clear HKD
      obtain ⟨k, vr, vm, vs, hk, rfl, HKD, HVR, HVM, HAP, HB⟩ := hrel
      have hzr := HB.out.size
      have hz0 := HS0.out
      have hka := HKA.out.below HB.out (by omega)
      have hkx := HKX.out.below HB.out (by omega)
      have a0 := hka.cell (i := 0) rfl
      have x0 := hkx.cell (i := 0) rfl
      have x1 := hkx.cell (i := 1) rfl
      have x2 := hkx.cell (i := 2) rfl
      have hlt2 := HKD.out.lt
      have hww : Below g w wr := HB0.out.trans (HB.out.mono (by omega))
      clear hka hkx
      by_cases hlt : k < n + 1
      · as_aux_lemma =>
          have d1 : decide ((k : Int) < (n : Int) + 1) = true := decide_eq_true (by omega)
          obtain ⟨wo, rfl⟩ : ∃ wo : World, wo = wr := ⟨_, rfl⟩
          have HWW := Lib.hid hww
          clear hww
          go_wp2_with fail
          obtain ⟨wm, hwm⟩ : ∃ wm, wm = wo.alloc (.cells (zs (.int .i64 0) K) 3) := ⟨_, rfl⟩
          rw [← hwm]
          have hsm : wm.heap.size = wo.heap.size + 1 := by rw [hwm]; simp
          have hbm : Below wo.heap.size wo wm := by rw [hwm]; exact (Below.refl _ _).alloc (Nat.le_refl _) _
          have hblk : Blk wm wo.heap.size 3 (iv (List.replicate K 0)) := by rw [hwm, ← iv_rep]; exact Blk.made wo 3 (.int .i64 0) K
          have HBM := Lib.hid hbm; have HBK := Lib.hid hblk
          clear hwm hbm hblk
          go_loopw [30] (fun jx wr => ∃ (j : Nat) (L : List Int), j ≤ K ∧ jx = .int .i64 (j : Int) ∧ Hid (Kp (fun q => q = wo.heap.size) wm wr) ∧ Hid (Blk wr wo.heap.size 3 (iv L)) ∧ Hid (L.length = K ∧ ∀ t, t < j → nth L t = (n : Int))) (fun jx _ => K - (intOf jx).toNat)
          case atStart => exact ⟨0, _, Nat.zero_le _, rfl, Kp.refl _ _, HBK.out, List.length_replicate, fun t h => absurd h (by omega)⟩
          case round =>
            as_aux_lemma =>
              clear HBK a0 x0 x1 x2
              obtain ⟨j, L, hj, rfl, HKP, HBL, HL⟩ := hrel
              have hz2 := HKP.out.size
              by_cases hjK : j < K
              · as_aux_lemma =>
                  have dj : decide ((j : Int) < (K : Int)) = true := decide_eq_true (by omega)
                  have y1 := HBL.out.icell (k := j) (by rw [HL.out.1]; exact hjK)
                  have y2 := HBL.out.frozen j
                  have HL2 : Hid ((L.set j (n : Int)).length = K ∧ ∀ t, t < j + 1 → nth (L.set j (n : Int)) t = (n : Int)) := Lib.hid ⟨by rw [List.length_set]; exact HL.out.1, fun t ht => by
                    rw [nth_set (by rw [HL.out.1]; exact hjK)]
                    by_cases e : j = t
                    · rw [if_pos e]
                    · rw [if_neg e]; exact HL.out.2 t (by omega)⟩
                  generalize nth L j = o1 at *
                  go_wp2_with fail
                  go_roundw
                  case rel => exact ⟨j + 1, _, by omega, by go_num, Lib.hid (HKP.out.set_ (p := ⟨wo.heap.size, j, none⟩) (.inr rfl) _), Lib.hid (HBL.out.iset j (n : Int)), HL2⟩
                  case measure => simp [intOf]; omega
              · as_aux_lemma =>
                  have dj : decide ((j : Int) < (K : Int)) = false := decide_eq_false (by omega)
                  have e : j = K := by omega
                  have hLe : L = List.replicate K (n : Int) := by
                    apply List.ext_getElem
                    · rw [HL.out.1]; simp
                    · intro t h1 h2
                      have := HL.out.2 t (by rw [HL.out.1] at h1; omega)
                      rw [nth_get h1] at this
                      rw [this]; simp
                  subst hLe
                  have hbw : Below wo.heap.size wo wr := HBM.out.trans (HKP.out.bel (by omega) (fun q h1 h2 => by omega))
                  have hB3 := HB.out.trans (hbw.mono (by omega))
                  have hka := HKA.out.below hB3 (by omega)
                  have hkx := HKX.out.below hB3 (by omega)
                  have a0 := hka.cell (i := 0) rfl
                  have x0 := hkx.cell (i := 0) rfl
                  have x1 := hkx.cell (i := 1) rfl
                  have HBW := Lib.hid hbw; have HB3 := Lib.hid hB3
                  have hag := hka.lt
                  clear hka hkx hbw hB3 e HL
                  by_cases hkn : k < n
                  · as_aux_lemma =>
                      have d2 : decide ((k : Int) < (n : Int)) = true := decide_eq_true (by omega)
                      have hkl : k < l.length := by rw [Hl.out]; exact hkn
                      have hst := List.getElem?_eq_getElem hkl
                      have hwr : Below g w wr := HWW.out.trans (HBW.out.mono (by omega))
                      obtain ⟨sb, so, rfl, hsb, hsc⟩ := states_at (Sh.below H.out (hwr.mono hgB)) (by omega)
                      obtain ⟨u1, -⟩ := hsc k _ hst
                      have HRU : Hid (rul l k = l[k].1) := Lib.hid (by unfold rul; rw [hst])
                      have HSTP : Hid (∀ p : Int, (dlt l k p : Int) = if 0 ≤ stp l[k].2 p then stp l[k].2 p else (n : Int)) := Lib.hid (fun p => by
                        unfold dlt; rw [hst]
                        simp only
                        split
                        · rename_i q; omega
                        · rw [Hl.out])
                      have HSC : Hid (∀ (W : World) (p : Int), Below g w W → g ≤ W.heap.size → isP p → Calls Tryz.prog 33 #[.agg #[.slice (some ⟨sb, so, none⟩) n c], .int .i64 k, .int .i64 p] W fun e w' => e = .returned (.int .i64 (stp l[k].2 p)) ∧ Below W.heap.size W w') := Lib.hid (fun W p hb hz hp => step_any (some ⟨sb, so, none⟩) n c k l _ p W B (Sh.below H.out (hb.mono hgB)) (by omega) Hl.out HOK.out hst hp.1 hp.2)
                      have hsb' : sb < B := hsb
                      have hsg : sb < wr.heap.size := by omega
                      generalize l[k] = s at *
                      obtain ⟨ru, ms⟩ := s
                      simp only at u1
                      have HWR := Lib.hid hwr
                      have HTH0 : Hid (ThR l C X k 0 (List.replicate K (n : Int))) := Lib.hid (by rw [← HK.out, ← Hl.out]; exact ThR.start)
                      clear hsc hst hwr
                      go_wp2_with fail
                      obtain ⟨wp, rfl⟩ : ∃ wp : World, wp = wr := ⟨_, rfl⟩
                      go_loopw [50] (fun jx wr => ∃ (j : Nat) (L : List Int), j ≤ P ∧ jx = .int .i64 (j : Int) ∧ Hid (Kp (fun q => q = wo.heap.size) wm wr) ∧ Hid (Blk wr wo.heap.size 3 (iv L)) ∧ Hid (ThR l C X k j L)) (fun jx _ => P - (intOf jx).toNat)
                      case atStart => exact ⟨0, _, Nat.zero_le _, rfl, HKP.out, HBL.out, HTH0.out⟩
                      case round =>
                        as_aux_lemma =>
                          clear HTH0 HKP HBL a0 x0 x1 HBW HB3 HWR u1
                          obtain ⟨j, L, hj, rfl, HKP, HBL, HTH⟩ := hrel
                          have hz2 := HKP.out.size
                          have hbw : Below wo.heap.size wo wr := HBM.out.trans (HKP.out.bel (by omega) (fun q h1 h2 => by omega))
                          have hB3 := HB.out.trans (hbw.mono (by omega))
                          have hka := HKA.out.below hB3 (by omega)
                          have hkx := HKX.out.below hB3 (by omega)
                          have a0 := hka.cell (i := 0) rfl
                          have x0 := hkx.cell (i := 0) rfl
                          have x1 := hkx.cell (i := 1) rfl
                          have hwr : Below g w wr := HWW.out.trans (hbw.mono (by omega))
                          have hxg := hkx.lt
                          have hag2 := hka.lt
                          have hgl := HBL.out.lt
                          by_cases hjP : j < P
                          · as_aux_lemma =>
                              have dj : decide ((j : Int) < (P : Int)) = true := decide_eq_true (by omega)
                              have hjX : j < X.length := by rw [HXL.out]; exact hjP
                              obtain ⟨xb, xo, rfl, hxb, hxc⟩ := (HX.out.below (hwr.mono hgB)).at_ (by omega)
                              obtain ⟨yb, yo, rfl, hyb, hyc⟩ := (HY.out.below (hwr.mono hgB)).at_ (by rw [HA.out.len]; omega)
                              obtain ⟨y1, y2⟩ := hxc j hjX
                              have y3 := hyc j (by rw [HA.out.len]; exact hjX)
                              obtain ⟨c1, c2⟩ := HA.out.cls j hjX
                              have hpt := HA.out.pt j hjX
                              have hyes := fun t ht => HTH.out.yes HA.out HC.out hjX (t := t) ht
                              have hno := fun ht => HTH.out.no HA.out HC.out hjX ht
                              have hdt := HSTP.out (nthR X j).1
                              rw [c1] at y3
                              rw [HK.out] at c2
                              have hlen : L.length = K := by rw [HTH.out.len]; exact HK.out
                              have y4 := HBL.out.icell (k := clsOf C (nthR X j).1) (by rw [hlen]; exact c2)
                              have y5 := HBL.out.frozen (clsOf C (nthR X j).1)
                              have hc1 := HSC.out (wr.alloc (.cells #[.int .i64 (nthR X j).1, .int .i64 (nthR X j).2] 62)) (nthR X j).1 (hwr.alloc (by omega) _) (by simp only [World.size_alloc]; omega) hpt
                              obtain ⟨cl, hcl⟩ : ∃ cl, cl = clsOf C (nthR X j).1 := ⟨_, rfl⟩
                              rw [← hcl] at y3 y4 y5 c2 hyes
                              have hdle := dlt_le HOK.out k (nthR X j).1
                              have HDT := Lib.hid hdt; have HYES := Lib.hid hyes; have HNO := Lib.hid hno; have HSCJ := Lib.hid hc1; have HDL := Lib.hid hdle
                              clear hxc hyc c1 hyes hno hdt hc1 hcl hpt hdle
                              generalize nthR X j = xr at *
                              obtain ⟨lo, hi⟩ := xr
                              simp only at y1 y2 HSCJ HDT HYES HNO HDL
                              generalize nth L cl = o1 at *
                              have HKPJ := HKP
                              have hxbw : xb < wr.heap.size := by omega
                              have hybw : yb < wr.heap.size := by omega
                              clear hka hkx hwr hbw hB3
                              by_cases hst : 0 ≤ stp ms lo
                              · as_aux_lemma =>
                                  have d3 : decide (0 ≤ stp ms lo) = true := decide_eq_true hst
                                  have HD2 : Hid ((dlt l k lo : Int) = stp ms lo) := Lib.hid (by rw [HDT.out, if_pos hst])
                                  generalize stp ms lo = st at *
                                  go_wp2_with fail
                                  refine HSCJ.out.mono ?_
                                  clear HSCJ
                                  rintro e w5 ⟨rfl, hb5⟩
                                  have hb6 : Below wr.heap.size wr w5 := ((Below.refl _ _).alloc (Nat.le_refl _) _).trans (hb5.mono (by simp))
                                  have x1 := (hb6.cell (p := ⟨g + 1, 1, none⟩) hxg).trans x1
                                  have y3 := (hb6.cell (p := ⟨yb, yo + j, none⟩) hybw).trans y3
                                  have y4 := (hb6.cell (p := ⟨wo.heap.size, cl, none⟩) hgl).trans y4
                                  have hb7 := HBL.out.below' hb6
                                  have y5 := hb7.frozen cl
                                  have HBL5 := Lib.hid (hb7.iset cl st)
                                  have HKP5 := Lib.hid ((HKP.out.trans (Kp.of hb6)).set_ (p := ⟨wo.heap.size, cl, none⟩) (.inr rfl) (.int .i64 st))
                                  clear hb5 hb6 hb7 y1 y2
                                  go_wp2_with fail
                                  go_roundw
                                  case rel => exact ⟨j + 1, _, by omega, by go_num, HKP5, HBL5, Lib.hid (HYES.out st HD2.out)⟩
                                  case measure => simp [intOf]; omega
                              · as_aux_lemma =>
                                  have d3 : decide (0 ≤ stp ms lo) = false := decide_eq_false hst
                                  have HD2 : Hid (dlt l k lo = l.length) := Lib.hid (by have h1 := HDT.out; rw [if_neg hst] at h1; rw [Hl.out]; omega)
                                  generalize stp ms lo = st at *
                                  go_wp2_with fail
                                  refine HSCJ.out.mono ?_
                                  clear HSCJ
                                  rintro e w5 ⟨rfl, hb5⟩
                                  have hb6 : Below wr.heap.size wr w5 := ((Below.refl _ _).alloc (Nat.le_refl _) _).trans (hb5.mono (by simp))
                                  have HBL5 := Lib.hid (HBL.out.below' hb6)
                                  have HKP5 := Lib.hid (HKP.out.trans (Kp.of hb6))
                                  clear hb5 hb6 y1 y2
                                  go_wp2_with fail
                                  go_roundw
                                  case rel => exact ⟨j + 1, L, by omega, by go_num, HKP5, HBL5, Lib.hid (HNO.out HD2.out)⟩
                                  case measure => simp [intOf]; omega
                          · as_aux_lemma =>
                              have dj : decide ((j : Int) < (P : Int)) = false := decide_eq_false (by omega)
                              have ejP : j = X.length := by rw [HXL.out]; omega
                              have hrl : L = fulRow l C k := by have h1 := HTH.out; rw [ejP] at h1; exact h1.done HA.out
                              obtain ⟨wd, hwd⟩ : ∃ wd, wd = wr.drew := ⟨_, rfl⟩
                              have hbd : Below wo.heap.size wo wd := by rw [hwd]; exact hbw.drew
                              have hln : (fulRow l C k).length = K := by unfold fulRow; simp [HK.out]
                              have hbk : Blk wd wo.heap.size 3 (iv (fulRow l C k)) := by rw [hwd, ← hrl]; exact HBL.out.drew
                              have hur := hbk.own (base := g + 4) (by omega) (by rw [hln]; unfold maxLen; omega)
                              have HT0 : Hid (Th wd wd (g + 1 + 1 + 1) (g + 4) (.int .i64 (K : Int)) vr vm vr vm (.slice (some ⟨wo.heap.size, 0, none⟩) K K) vs ((List.range k).map (rul l)) ((List.range k).map (fulRow l C)) (fulRow l C k)) := Lib.hid ⟨Below.refl _ _, HKD.out.below' hbd, by rw [show ((List.range k).map (rul l)).length = k by simp]; exact own_ext HVR.out hbd, HVM.out.ext hbd, HAP.out, by rw [hln] at hur ⊢; exact hur, by
                                refine .inr fun e => ?_
                                have := (HVR.out.lt wo.heap.size (by rw [← e]; rfl)).2
                                omega, by omega, by have := hbd.size; omega⟩
                              have HU1 : Hid (((.slice (some ⟨wo.heap.size, 0, none⟩) K K) : Value).oneCell' = true) := Lib.hid rfl
                              have HLRk : Hid (((List.range k).map (rul l)).length = k) := Lib.hid (by simp)
                              have HLMk : Hid (((List.range k).map (fulRow l C)).length = k) := Lib.hid (by simp)
                              have HSNM : Hid ((List.range (k + 1)).map (fulRow l C) = (List.range k).map (fulRow l C) ++ [fulRow l C k]) := Lib.hid (map_range_snoc _ _)
                              have HSNR : Hid (iv ((List.range (k + 1)).map (rul l)) = iv ((List.range k).map (rul l) ++ [ru])) := Lib.hid (by rw [map_range_snoc, HRU.out])
                              have HBd : Hid (Below (g + 3) W0 wd) := Lib.hid (HB.out.trans (hbd.mono (by omega)))
                              clear hbd hln hbk hur hrl
                              clear ejP hka hkx hbw hB3 hwr a0 x0 x1
                              have k1 : ∀ X : WB (g + 4) wd, X.val.cell? ⟨g + 1 + 1 + 1, 1, none⟩ = some vr := fun X => (X.bel.cell (p := ⟨g + 1 + 1 + 1, 1, none⟩) (show g + 1 + 1 + 1 < g + 4 by omega)).trans (HT0.out.kd.cell (i := 1) rfl)
                              have k2 : ∀ X : WB (g + 4) wd, X.val.cell? ⟨g + 1 + 1 + 1, 2, none⟩ = some vm := fun X => (X.bel.cell (p := ⟨g + 1 + 1 + 1, 2, none⟩) (show g + 1 + 1 + 1 < g + 4 by omega)).trans (HT0.out.kd.cell (i := 2) rfl)
                              go_wp2_with fail
                              refine wp_region_U (fun w' => ∃ X : WB (g + 4) wd, w' = X.val) 3 11 7 (by kernel_rfl) 10 (by rfl) (by kernel_rfl) (by kernel_rfl) (fun _ _ d _ _ h => by cases d <;> exact h) ⟨⟨_, Below.refl _ _⟩, hwd.symm⟩ ?_
                              rw [← hwd]
                              clear hwd
                              simp only [List.take_succ_cons, List.take_zero, List.drop_succ_cons, List.drop_zero]
                              repeat (first | go_big_quiet_skip | (go_big_quiet_want; go_big_quiet_op; go_big_quiet_on))
                              refine wpQuiet_nil ?_
                              show wpAnyT _ _ _ _ _ _ _ (7 + 3) _ _ _
                              refine takeT 7 0 3 (by kernel_rfl) (by kernel_rfl) (fun _ _ d _ _ h => by cases d <;> exact h) ⟨⟨_, Below.refl _ _⟩, rfl⟩ ?_
                              simp only [List.take_succ_cons, List.take_zero, List.drop_succ_cons, List.drop_zero]
                              repeat (first | go_big_quiet_skip | (go_big_quiet_want; go_big_quiet_op; go_big_quiet_on))
                              refine wpQuiet_nil ?_
                              show wpAnyT _ _ _ _ _ _ _ (5 + 2) _ _ _
                              refine takeT 5 5 2 (by kernel_rfl) (by kernel_rfl) (fun _ _ d _ _ h => by cases d <;> exact h) ⟨⟨_, Below.refl _ _⟩, rfl⟩ ?_
                              simp only [List.take_succ_cons, List.take_zero, List.drop_succ_cons, List.drop_zero]
                              repeat (first | go_big_quiet_skip | (go_big_quiet_want; go_big_quiet_op; go_big_quiet_on))
                              refine wpQuiet_nil ?_
                              clear k1 k2
                              refine twoT 4 3 8 (by kernel_rfl) (by decide) (by decide) ?_ ?_
                              · as_aux_lemma =>
                                  simp only [List.take_succ_cons, List.take_zero, List.drop_succ_cons, List.drop_zero]
                                  go_wp2_with fail
                                  obtain ⟨wz1, hwz1⟩ : ∃ wz1, wz1 = wd.alloc (.cells #[.int .i64 ru] 3) := ⟨_, rfl⟩
                                  have hbwz1 : Below wd.heap.size wd wz1 := by rw [hwz1]; exact (Below.refl _ _).alloc (Nat.le_refl _) _
                                  have HBK3wz1 : Hid (Blk wz1 wd.heap.size 3 [.int .i64 ru]) := Lib.hid (by rw [hwz1]; exact Blk.new wd _ _)
                                  have HTwz1 := Lib.hid (HT0.out.ext hbwz1)
                                  rw [← hwz1]
                                  clear hwz1 hbwz1
                                  refine ⟨⟨WB.mk _ HTwz1.out.b, rfl⟩, ?_⟩
                                  refine twoT 3 4 8 (by kernel_rfl) (by decide) (by decide) ?_ ?_
                                  · as_aux_lemma =>
                                      simp only [List.take_succ_cons, List.take_zero, List.drop_succ_cons, List.drop_zero]
                                      go_wp2_with (at_builtin; refine wpList_appB elInts rfl (.tmp 72) (.tmp 74) rfl (g + 4) vr k 1 wd.heap.size (iv ((List.range k).map (rul l))) [.int .i64 ru] rfl (by have := HTwz1.out.r; rw [HLRk.out] at this; exact this) rfl HBK3wz1.out rfl (by simp [Value.oneCell']) (by omega) (by omega) HTwz1.out.base_le ?_; intro vwz2 wz2 hown hgr hat; have HGwz2 := Lib.hid hgr; have HTwz2 := Lib.hid (HTwz1.out.appR hgr (by rw [HLRk.out]; exact hown) hat); obtain ⟨Awz2, cwz2, rfl, -, -⟩ := own_len hown; clear hown hgr hat)
                                      refine ⟨⟨WB.mk _ HTwz2.out.b, rfl⟩, ?_⟩
                                      show wpAnyT _ _ _ _ _ _ _ (2 + 1) _ _ _
                                      refine takeT 2 10 1 (by kernel_rfl) (by kernel_rfl) (fun _ _ d _ _ h => by cases d <;> exact h) ⟨⟨_, HTwz2.out.b⟩, rfl⟩ ?_
                                      simp only [List.take_succ_cons, List.take_zero, List.drop_succ_cons, List.drop_zero]
                                      simp only [Act.put, Array.set!_eq_setIfInBounds, List.setIfInBounds_toArray, List.set_cons_succ, List.set_cons_zero]
                                      repeat (first | go_big_quiet_skip | (go_big_quiet_want; go_big_quiet_op; go_big_quiet_on))
                                      refine wpQuiet_nil ?_
                                      refine oneT 1 8 (by kernel_rfl) (by decide) ?_
                                      simp only [List.take_succ_cons, List.take_zero, List.drop_succ_cons, List.drop_zero]
                                      go_wp2_with fail
                                      obtain ⟨wz3, hwz3⟩ : ∃ wz3, wz3 = wz2.alloc (.cells #[.slice (some ⟨wo.heap.size, 0, none⟩) K K] 37) := ⟨_, rfl⟩
                                      have hbwz3 : Below wz2.heap.size wz2 wz3 := by rw [hwz3]; exact (Below.refl _ _).alloc (Nat.le_refl _) _
                                      have HBK8wz3 : Hid (Blk wz3 wz2.heap.size 37 [.slice (some ⟨wo.heap.size, 0, none⟩) K K]) := Lib.hid (by rw [hwz3]; exact Blk.new wz2 _ _)
                                      have HTwz3 := Lib.hid (HTwz2.out.ext hbwz3)
                                      rw [← hwz3]
                                      clear hwz3 hbwz3
                                      refine ⟨⟨WB.mk _ HTwz3.out.b, rfl⟩, ?_⟩
                                      refine oneT 0 9 (by kernel_rfl) (by decide) ?_
                                      simp only [List.take_succ_cons, List.take_zero, List.drop_succ_cons, List.drop_zero]
                                      go_wp2_with (at_builtin; refine wpList_appB elRows rfl (.tmp 77) (.tmp 79) rfl (g + 4) vm k 1 wz2.heap.size vs [.slice (some ⟨wo.heap.size, 0, none⟩) K K] rfl (by have := HTwz3.out.m.row; rw [HLMk.out] at this; exact this) rfl HBK8wz3.out rfl (by intro q hq; rw [List.mem_singleton] at hq; rw [hq]; exact HU1.out) (by omega) (by omega) HTwz3.out.base_le ?_; intro vwz4 wz4 hown hgr hat; have HTwz4 := Lib.hid (HTwz3.out.appM hgr (by rw [HLMk.out]; exact hown)); obtain ⟨Awz4, cwz4, rfl, -, -⟩ := own_len hown; clear hown hgr hat)
                                      refine ⟨⟨WB.mk _ HTwz4.out.b, rfl⟩, ?_⟩
                                      refine endT (by kernel_rfl) ?_
                                      simp only [List.drop_succ_cons, List.drop_zero]
                                      have e1 := HTwz4.out.kd.cell (i := 1) rfl
                                      have e2 := HTwz4.out.kd.frozen 1
                                      have hk := HTwz4.out.kd.set_ 1 ((.slice Awz2 (k + 1) cwz2))
                                      have e3 := hk.cell (i := 2) rfl
                                      have e4 := hk.frozen 2
                                      have HK9 := Lib.hid (hk.set_ 2 ((.slice Awz4 (k + 1) cwz4)))
                                      have HR9 := Lib.hid (own_set (p := ⟨g + 1 + 1 + 1, 2, none⟩) (x := (.slice Awz4 (k + 1) cwz4)) (own_set (p := ⟨g + 1 + 1 + 1, 1, none⟩) (x := (.slice Awz2 (k + 1) cwz2)) HTwz4.out.r (show g + 1 + 1 + 1 < g + 4 by omega)) (show g + 1 + 1 + 1 < g + 4 by omega))
                                      have HM9 := Lib.hid ((HTwz4.out.m.set_ (p := ⟨g + 1 + 1 + 1, 1, none⟩) (x := (.slice Awz2 (k + 1) cwz2)) (show g + 1 + 1 + 1 < g + 4 by omega)).set_ (p := ⟨g + 1 + 1 + 1, 2, none⟩) (x := (.slice Awz4 (k + 1) cwz4)) (show g + 1 + 1 + 1 < g + 4 by omega))
                                      have HB9 := Lib.hid (((HBd.out.trans (HTwz4.out.b.mono (by omega))).setCell (p := ⟨g + 1 + 1 + 1, 1, none⟩) (show g + 3 ≤ g + 1 + 1 + 1 by omega) ((.slice Awz2 (k + 1) cwz2))).setCell (p := ⟨g + 1 + 1 + 1, 2, none⟩) (show g + 3 ≤ g + 1 + 1 + 1 by omega) ((.slice Awz4 (k + 1) cwz4)))
                                      have HAP9 := Lib.hid HTwz4.out.ap
                                      clear hk
                                      go_wp2_with fail
                                      go_roundw
                                      case rel => exact ⟨k + 1, _, _, _, by omega, by go_num, HK9, Lib.hid (by have := HR9.out; rw [List.length_append, HLRk.out] at this; rw [HSNR.out]; exact this), Lib.hid (by rw [HSNM.out]; exact HM9.out), HAP9, HB9⟩
                                      case measure => simp [intOf]; omega
                                  · as_aux_lemma =>
                                      simp only [List.take_succ_cons, List.take_zero, List.drop_succ_cons, List.drop_zero]
                                      go_wp2_with fail
                                      obtain ⟨wz5, hwz5⟩ : ∃ wz5, wz5 = wz1.alloc (.cells #[.slice (some ⟨wo.heap.size, 0, none⟩) K K] 37) := ⟨_, rfl⟩
                                      have hbwz5 : Below wz1.heap.size wz1 wz5 := by rw [hwz5]; exact (Below.refl _ _).alloc (Nat.le_refl _) _
                                      have HBK8wz5 : Hid (Blk wz5 wz1.heap.size 37 [.slice (some ⟨wo.heap.size, 0, none⟩) K K]) := Lib.hid (by rw [hwz5]; exact Blk.new wz1 _ _)
                                      have HTwz5 := Lib.hid (HTwz1.out.ext hbwz5)
                                      have HBK3wz1_wz5 : Hid (Blk wz5 wd.heap.size 3 [.int .i64 ru]) := Lib.hid (HBK3wz1.out.below' hbwz5)
                                      rw [← hwz5]
                                      clear hwz5 hbwz5
                                      refine ⟨⟨WB.mk _ HTwz5.out.b, rfl⟩, ?_⟩
                                      refine oneT 2 4 (by kernel_rfl) (by decide) ?_
                                      simp only [List.take_succ_cons, List.take_zero, List.drop_succ_cons, List.drop_zero]
                                      go_wp2_with (at_builtin; refine wpList_appB elInts rfl (.tmp 72) (.tmp 74) rfl (g + 4) vr k 1 wd.heap.size (iv ((List.range k).map (rul l))) [.int .i64 ru] rfl (by have := HTwz5.out.r; rw [HLRk.out] at this; exact this) rfl HBK3wz1_wz5.out rfl (by simp [Value.oneCell']) (by omega) (by omega) HTwz5.out.base_le ?_; intro vwz6 wz6 hown hgr hat; have HGwz6 := Lib.hid hgr; have HTwz6 := Lib.hid (HTwz5.out.appR hgr (by rw [HLRk.out]; exact hown) hat); obtain ⟨Awz6, cwz6, rfl, -, -⟩ := own_len hown; clear hown hgr hat)
                                      refine ⟨⟨WB.mk _ HTwz6.out.b, rfl⟩, ?_⟩
                                      have HBK8wz5_wz6 : Hid (Blk wz6 wz1.heap.size 37 [.slice (some ⟨wo.heap.size, 0, none⟩) K K]) := Lib.hid (HBK8wz5.out.grown HGwz6.out (fun e => by obtain ⟨us, hu⟩ := own_ty HTwz5.out.r e.symm; exact absurd (Blk.type_eq HBK8wz5.out hu) (by decide)))
                                      show wpAnyT _ _ _ _ _ _ _ (1 + 1) _ _ _
                                      refine takeT 1 10 1 (by kernel_rfl) (by kernel_rfl) (fun _ _ d _ _ h => by cases d <;> exact h) ⟨⟨_, HTwz6.out.b⟩, rfl⟩ ?_
                                      simp only [List.take_succ_cons, List.take_zero, List.drop_succ_cons, List.drop_zero]
                                      simp only [Act.put, Array.set!_eq_setIfInBounds, List.setIfInBounds_toArray, List.set_cons_succ, List.set_cons_zero]
                                      repeat (first | go_big_quiet_skip | (go_big_quiet_want; go_big_quiet_op; go_big_quiet_on))
                                      refine wpQuiet_nil ?_
                                      refine oneT 0 9 (by kernel_rfl) (by decide) ?_
                                      simp only [List.take_succ_cons, List.take_zero, List.drop_succ_cons, List.drop_zero]
                                      go_wp2_with (at_builtin; refine wpList_appB elRows rfl (.tmp 77) (.tmp 79) rfl (g + 4) vm k 1 wz1.heap.size vs [.slice (some ⟨wo.heap.size, 0, none⟩) K K] rfl (by have := HTwz6.out.m.row; rw [HLMk.out] at this; exact this) rfl HBK8wz5_wz6.out rfl (by intro q hq; rw [List.mem_singleton] at hq; rw [hq]; exact HU1.out) (by omega) (by omega) HTwz6.out.base_le ?_; intro vwz7 wz7 hown hgr hat; have HTwz7 := Lib.hid (HTwz6.out.appM hgr (by rw [HLMk.out]; exact hown)); obtain ⟨Awz7, cwz7, rfl, -, -⟩ := own_len hown; clear hown hgr hat)
                                      refine ⟨⟨WB.mk _ HTwz7.out.b, rfl⟩, ?_⟩
                                      refine endT (by kernel_rfl) ?_
                                      simp only [List.drop_succ_cons, List.drop_zero]
                                      have e1 := HTwz7.out.kd.cell (i := 1) rfl
                                      have e2 := HTwz7.out.kd.frozen 1
                                      have hk := HTwz7.out.kd.set_ 1 ((.slice Awz6 (k + 1) cwz6))
                                      have e3 := hk.cell (i := 2) rfl
                                      have e4 := hk.frozen 2
                                      have HK9 := Lib.hid (hk.set_ 2 ((.slice Awz7 (k + 1) cwz7)))
                                      have HR9 := Lib.hid (own_set (p := ⟨g + 1 + 1 + 1, 2, none⟩) (x := (.slice Awz7 (k + 1) cwz7)) (own_set (p := ⟨g + 1 + 1 + 1, 1, none⟩) (x := (.slice Awz6 (k + 1) cwz6)) HTwz7.out.r (show g + 1 + 1 + 1 < g + 4 by omega)) (show g + 1 + 1 + 1 < g + 4 by omega))
                                      have HM9 := Lib.hid ((HTwz7.out.m.set_ (p := ⟨g + 1 + 1 + 1, 1, none⟩) (x := (.slice Awz6 (k + 1) cwz6)) (show g + 1 + 1 + 1 < g + 4 by omega)).set_ (p := ⟨g + 1 + 1 + 1, 2, none⟩) (x := (.slice Awz7 (k + 1) cwz7)) (show g + 1 + 1 + 1 < g + 4 by omega))
                                      have HB9 := Lib.hid (((HBd.out.trans (HTwz7.out.b.mono (by omega))).setCell (p := ⟨g + 1 + 1 + 1, 1, none⟩) (show g + 3 ≤ g + 1 + 1 + 1 by omega) ((.slice Awz6 (k + 1) cwz6))).setCell (p := ⟨g + 1 + 1 + 1, 2, none⟩) (show g + 3 ≤ g + 1 + 1 + 1 by omega) ((.slice Awz7 (k + 1) cwz7)))
                                      have HAP9 := Lib.hid HTwz7.out.ap
                                      clear hk
                                      go_wp2_with fail
                                      go_roundw
                                      case rel => exact ⟨k + 1, _, _, _, by omega, by go_num, HK9, Lib.hid (by have := HR9.out; rw [List.length_append, HLRk.out] at this; rw [HSNR.out]; exact this), Lib.hid (by rw [HSNM.out]; exact HM9.out), HAP9, HB9⟩
                                      case measure => simp [intOf]; omega
                              · as_aux_lemma =>
                                  simp only [List.take_succ_cons, List.take_zero, List.drop_succ_cons, List.drop_zero]
                                  go_wp2_with fail
                                  obtain ⟨wz8, hwz8⟩ : ∃ wz8, wz8 = wd.alloc (.cells #[.slice (some ⟨wo.heap.size, 0, none⟩) K K] 37) := ⟨_, rfl⟩
                                  have hbwz8 : Below wd.heap.size wd wz8 := by rw [hwz8]; exact (Below.refl _ _).alloc (Nat.le_refl _) _
                                  have HBK8wz8 : Hid (Blk wz8 wd.heap.size 37 [.slice (some ⟨wo.heap.size, 0, none⟩) K K]) := Lib.hid (by rw [hwz8]; exact Blk.new wd _ _)
                                  have HTwz8 := Lib.hid (HT0.out.ext hbwz8)
                                  rw [← hwz8]
                                  clear hwz8 hbwz8
                                  refine ⟨⟨WB.mk _ HTwz8.out.b, rfl⟩, ?_⟩
                                  refine oneT 3 3 (by kernel_rfl) (by decide) ?_
                                  simp only [List.take_succ_cons, List.take_zero, List.drop_succ_cons, List.drop_zero]
                                  go_wp2_with fail
                                  obtain ⟨wz9, hwz9⟩ : ∃ wz9, wz9 = wz8.alloc (.cells #[.int .i64 ru] 3) := ⟨_, rfl⟩
                                  have hbwz9 : Below wz8.heap.size wz8 wz9 := by rw [hwz9]; exact (Below.refl _ _).alloc (Nat.le_refl _) _
                                  have HBK3wz9 : Hid (Blk wz9 wz8.heap.size 3 [.int .i64 ru]) := Lib.hid (by rw [hwz9]; exact Blk.new wz8 _ _)
                                  have HTwz9 := Lib.hid (HTwz8.out.ext hbwz9)
                                  have HBK8wz8_wz9 : Hid (Blk wz9 wd.heap.size 37 [.slice (some ⟨wo.heap.size, 0, none⟩) K K]) := Lib.hid (HBK8wz8.out.below' hbwz9)
                                  rw [← hwz9]
                                  clear hwz9 hbwz9
                                  refine ⟨⟨WB.mk _ HTwz9.out.b, rfl⟩, ?_⟩
                                  refine oneT 2 4 (by kernel_rfl) (by decide) ?_
                                  simp only [List.take_succ_cons, List.take_zero, List.drop_succ_cons, List.drop_zero]
                                  go_wp2_with (at_builtin; refine wpList_appB elInts rfl (.tmp 72) (.tmp 74) rfl (g + 4) vr k 1 wz8.heap.size (iv ((List.range k).map (rul l))) [.int .i64 ru] rfl (by have := HTwz9.out.r; rw [HLRk.out] at this; exact this) rfl HBK3wz9.out rfl (by simp [Value.oneCell']) (by omega) (by omega) HTwz9.out.base_le ?_; intro vwz10 wz10 hown hgr hat; have HGwz10 := Lib.hid hgr; have HTwz10 := Lib.hid (HTwz9.out.appR hgr (by rw [HLRk.out]; exact hown) hat); obtain ⟨Awz10, cwz10, rfl, -, -⟩ := own_len hown; clear hown hgr hat)
                                  refine ⟨⟨WB.mk _ HTwz10.out.b, rfl⟩, ?_⟩
                                  have HBK8wz8_wz9_wz10 : Hid (Blk wz10 wd.heap.size 37 [.slice (some ⟨wo.heap.size, 0, none⟩) K K]) := Lib.hid (HBK8wz8_wz9.out.grown HGwz10.out (fun e => by obtain ⟨us, hu⟩ := own_ty HTwz9.out.r e.symm; exact absurd (Blk.type_eq HBK8wz8_wz9.out hu) (by decide)))
                                  show wpAnyT _ _ _ _ _ _ _ (1 + 1) _ _ _
                                  refine takeT 1 10 1 (by kernel_rfl) (by kernel_rfl) (fun _ _ d _ _ h => by cases d <;> exact h) ⟨⟨_, HTwz10.out.b⟩, rfl⟩ ?_
                                  simp only [List.take_succ_cons, List.take_zero, List.drop_succ_cons, List.drop_zero]
                                  simp only [Act.put, Array.set!_eq_setIfInBounds, List.setIfInBounds_toArray, List.set_cons_succ, List.set_cons_zero]
                                  repeat (first | go_big_quiet_skip | (go_big_quiet_want; go_big_quiet_op; go_big_quiet_on))
                                  refine wpQuiet_nil ?_
                                  refine oneT 0 9 (by kernel_rfl) (by decide) ?_
                                  simp only [List.take_succ_cons, List.take_zero, List.drop_succ_cons, List.drop_zero]
                                  go_wp2_with (at_builtin; refine wpList_appB elRows rfl (.tmp 77) (.tmp 79) rfl (g + 4) vm k 1 wd.heap.size vs [.slice (some ⟨wo.heap.size, 0, none⟩) K K] rfl (by have := HTwz10.out.m.row; rw [HLMk.out] at this; exact this) rfl HBK8wz8_wz9_wz10.out rfl (by intro q hq; rw [List.mem_singleton] at hq; rw [hq]; exact HU1.out) (by omega) (by omega) HTwz10.out.base_le ?_; intro vwz11 wz11 hown hgr hat; have HTwz11 := Lib.hid (HTwz10.out.appM hgr (by rw [HLMk.out]; exact hown)); obtain ⟨Awz11, cwz11, rfl, -, -⟩ := own_len hown; clear hown hgr hat)
                                  refine ⟨⟨WB.mk _ HTwz11.out.b, rfl⟩, ?_⟩
                                  refine endT (by kernel_rfl) ?_
                                  simp only [List.drop_succ_cons, List.drop_zero]
                                  have e1 := HTwz11.out.kd.cell (i := 1) rfl
                                  have e2 := HTwz11.out.kd.frozen 1
                                  have hk := HTwz11.out.kd.set_ 1 ((.slice Awz10 (k + 1) cwz10))
                                  have e3 := hk.cell (i := 2) rfl
                                  have e4 := hk.frozen 2
                                  have HK9 := Lib.hid (hk.set_ 2 ((.slice Awz11 (k + 1) cwz11)))
                                  have HR9 := Lib.hid (own_set (p := ⟨g + 1 + 1 + 1, 2, none⟩) (x := (.slice Awz11 (k + 1) cwz11)) (own_set (p := ⟨g + 1 + 1 + 1, 1, none⟩) (x := (.slice Awz10 (k + 1) cwz10)) HTwz11.out.r (show g + 1 + 1 + 1 < g + 4 by omega)) (show g + 1 + 1 + 1 < g + 4 by omega))
                                  have HM9 := Lib.hid ((HTwz11.out.m.set_ (p := ⟨g + 1 + 1 + 1, 1, none⟩) (x := (.slice Awz10 (k + 1) cwz10)) (show g + 1 + 1 + 1 < g + 4 by omega)).set_ (p := ⟨g + 1 + 1 + 1, 2, none⟩) (x := (.slice Awz11 (k + 1) cwz11)) (show g + 1 + 1 + 1 < g + 4 by omega))
                                  have HB9 := Lib.hid (((HBd.out.trans (HTwz11.out.b.mono (by omega))).setCell (p := ⟨g + 1 + 1 + 1, 1, none⟩) (show g + 3 ≤ g + 1 + 1 + 1 by omega) ((.slice Awz10 (k + 1) cwz10))).setCell (p := ⟨g + 1 + 1 + 1, 2, none⟩) (show g + 3 ≤ g + 1 + 1 + 1 by omega) ((.slice Awz11 (k + 1) cwz11)))
                                  have HAP9 := Lib.hid HTwz11.out.ap
                                  clear hk
                                  go_wp2_with fail
                                  go_roundw
                                  case rel => exact ⟨k + 1, _, _, _, by omega, by go_num, HK9, Lib.hid (by have := HR9.out; rw [List.length_append, HLRk.out] at this; rw [HSNR.out]; exact this), Lib.hid (by rw [HSNM.out]; exact HM9.out), HAP9, HB9⟩
                                  case measure => simp [intOf]; omega
                  · as_aux_lemma =>
                      have d2 : decide ((k : Int) < (n : Int)) = false := decide_eq_false (by omega)
                      have hbw := HBW.out
                      have hkn2 : k = l.length := by rw [Hl.out]; omega
                      have HRU : Hid (rul l k = -1) := Lib.hid (by unfold rul; rw [List.getElem?_eq_none (by omega)])
                      have hrl : List.replicate K (n : Int) = fulRow l C k := by rw [hkn2, ← HK.out, ← Hl.out]; exact ful_last
                      obtain ⟨wd, hwd⟩ : ∃ wd, wd = wr.drew := ⟨_, rfl⟩
                      have hbd : Below wo.heap.size wo wd := by rw [hwd]; exact hbw.drew
                      have hln : (fulRow l C k).length = K := by unfold fulRow; simp [HK.out]
                      have hbk : Blk wd wo.heap.size 3 (iv (fulRow l C k)) := by rw [hwd, ← hrl]; exact HBL.out.drew
                      have hur := hbk.own (base := g + 4) (by omega) (by rw [hln]; unfold maxLen; omega)
                      have HT0 : Hid (Th wd wd (g + 1 + 1 + 1) (g + 4) (.int .i64 (K : Int)) vr vm vr vm (.slice (some ⟨wo.heap.size, 0, none⟩) K K) vs ((List.range k).map (rul l)) ((List.range k).map (fulRow l C)) (fulRow l C k)) := Lib.hid ⟨Below.refl _ _, HKD.out.below' hbd, by rw [show ((List.range k).map (rul l)).length = k by simp]; exact own_ext HVR.out hbd, HVM.out.ext hbd, HAP.out, by rw [hln] at hur ⊢; exact hur, by
                        refine .inr fun e => ?_
                        have := (HVR.out.lt wo.heap.size (by rw [← e]; rfl)).2
                        omega, by omega, by have := hbd.size; omega⟩
                      have HU1 : Hid (((.slice (some ⟨wo.heap.size, 0, none⟩) K K) : Value).oneCell' = true) := Lib.hid rfl
                      have HLRk : Hid (((List.range k).map (rul l)).length = k) := Lib.hid (by simp)
                      have HLMk : Hid (((List.range k).map (fulRow l C)).length = k) := Lib.hid (by simp)
                      have HSNM : Hid ((List.range (k + 1)).map (fulRow l C) = (List.range k).map (fulRow l C) ++ [fulRow l C k]) := Lib.hid (map_range_snoc _ _)
                      have HSNR : Hid (iv ((List.range (k + 1)).map (rul l)) = iv ((List.range k).map (rul l) ++ [-1])) := Lib.hid (by rw [map_range_snoc, HRU.out])
                      have HBd : Hid (Below (g + 3) W0 wd) := Lib.hid (HB.out.trans (hbd.mono (by omega)))
                      clear hbd hln hbk hur hrl
                      clear hbw hkn2 a0 x0 x1
                      have k1 : ∀ X : WB (g + 4) wd, X.val.cell? ⟨g + 1 + 1 + 1, 1, none⟩ = some vr := fun X => (X.bel.cell (p := ⟨g + 1 + 1 + 1, 1, none⟩) (show g + 1 + 1 + 1 < g + 4 by omega)).trans (HT0.out.kd.cell (i := 1) rfl)
                      have k2 : ∀ X : WB (g + 4) wd, X.val.cell? ⟨g + 1 + 1 + 1, 2, none⟩ = some vm := fun X => (X.bel.cell (p := ⟨g + 1 + 1 + 1, 2, none⟩) (show g + 1 + 1 + 1 < g + 4 by omega)).trans (HT0.out.kd.cell (i := 2) rfl)
                      go_wp2_with fail
                      refine wp_region_U (fun w' => ∃ X : WB (g + 4) wd, w' = X.val) 3 11 7 (by kernel_rfl) 10 (by rfl) (by kernel_rfl) (by kernel_rfl) (fun _ _ d _ _ h => by cases d <;> exact h) ⟨⟨_, Below.refl _ _⟩, hwd.symm⟩ ?_
                      rw [← hwd]
                      clear hwd
                      simp only [List.take_succ_cons, List.take_zero, List.drop_succ_cons, List.drop_zero]
                      repeat (first | go_big_quiet_skip | (go_big_quiet_want; go_big_quiet_op; go_big_quiet_on))
                      refine wpQuiet_nil ?_
                      show wpAnyT _ _ _ _ _ _ _ (7 + 3) _ _ _
                      refine takeT 7 0 3 (by kernel_rfl) (by kernel_rfl) (fun _ _ d _ _ h => by cases d <;> exact h) ⟨⟨_, Below.refl _ _⟩, rfl⟩ ?_
                      simp only [List.take_succ_cons, List.take_zero, List.drop_succ_cons, List.drop_zero]
                      repeat (first | go_big_quiet_skip | (go_big_quiet_want; go_big_quiet_op; go_big_quiet_on))
                      refine wpQuiet_nil ?_
                      show wpAnyT _ _ _ _ _ _ _ (5 + 2) _ _ _
                      refine takeT 5 5 2 (by kernel_rfl) (by kernel_rfl) (fun _ _ d _ _ h => by cases d <;> exact h) ⟨⟨_, Below.refl _ _⟩, rfl⟩ ?_
                      simp only [List.take_succ_cons, List.take_zero, List.drop_succ_cons, List.drop_zero]
                      repeat (first | go_big_quiet_skip | (go_big_quiet_want; go_big_quiet_op; go_big_quiet_on))
                      refine wpQuiet_nil ?_
                      clear k1 k2
                      refine twoT 4 3 8 (by kernel_rfl) (by decide) (by decide) ?_ ?_
                      · as_aux_lemma =>
                          simp only [List.take_succ_cons, List.take_zero, List.drop_succ_cons, List.drop_zero]
                          go_wp2_with fail
                          obtain ⟨wz1, hwz1⟩ : ∃ wz1, wz1 = wd.alloc (.cells #[.int .i64 (-1)] 3) := ⟨_, rfl⟩
                          have hbwz1 : Below wd.heap.size wd wz1 := by rw [hwz1]; exact (Below.refl _ _).alloc (Nat.le_refl _) _
                          have HBK3wz1 : Hid (Blk wz1 wd.heap.size 3 [.int .i64 (-1)]) := Lib.hid (by rw [hwz1]; exact Blk.new wd _ _)
                          have HTwz1 := Lib.hid (HT0.out.ext hbwz1)
                          rw [← hwz1]
                          clear hwz1 hbwz1
                          refine ⟨⟨WB.mk _ HTwz1.out.b, rfl⟩, ?_⟩
                          refine twoT 3 4 8 (by kernel_rfl) (by decide) (by decide) ?_ ?_
                          · as_aux_lemma =>
                              simp only [List.take_succ_cons, List.take_zero, List.drop_succ_cons, List.drop_zero]
                              go_wp2_with (at_builtin; refine wpList_appB elInts rfl (.tmp 72) (.tmp 74) rfl (g + 4) vr k 1 wd.heap.size (iv ((List.range k).map (rul l))) [.int .i64 (-1)] rfl (by have := HTwz1.out.r; rw [HLRk.out] at this; exact this) rfl HBK3wz1.out rfl (by simp [Value.oneCell']) (by omega) (by omega) HTwz1.out.base_le ?_; intro vwz2 wz2 hown hgr hat; have HGwz2 := Lib.hid hgr; have HTwz2 := Lib.hid (HTwz1.out.appR hgr (by rw [HLRk.out]; exact hown) hat); obtain ⟨Awz2, cwz2, rfl, -, -⟩ := own_len hown; clear hown hgr hat)
                              refine ⟨⟨WB.mk _ HTwz2.out.b, rfl⟩, ?_⟩
                              show wpAnyT _ _ _ _ _ _ _ (2 + 1) _ _ _
                              refine takeT 2 10 1 (by kernel_rfl) (by kernel_rfl) (fun _ _ d _ _ h => by cases d <;> exact h) ⟨⟨_, HTwz2.out.b⟩, rfl⟩ ?_
                              simp only [List.take_succ_cons, List.take_zero, List.drop_succ_cons, List.drop_zero]
                              simp only [Act.put, Array.set!_eq_setIfInBounds, List.setIfInBounds_toArray, List.set_cons_succ, List.set_cons_zero]
                              repeat (first | go_big_quiet_skip | (go_big_quiet_want; go_big_quiet_op; go_big_quiet_on))
                              refine wpQuiet_nil ?_
                              refine oneT 1 8 (by kernel_rfl) (by decide) ?_
                              simp only [List.take_succ_cons, List.take_zero, List.drop_succ_cons, List.drop_zero]
                              go_wp2_with fail
                              obtain ⟨wz3, hwz3⟩ : ∃ wz3, wz3 = wz2.alloc (.cells #[.slice (some ⟨wo.heap.size, 0, none⟩) K K] 37) := ⟨_, rfl⟩
                              have hbwz3 : Below wz2.heap.size wz2 wz3 := by rw [hwz3]; exact (Below.refl _ _).alloc (Nat.le_refl _) _
                              have HBK8wz3 : Hid (Blk wz3 wz2.heap.size 37 [.slice (some ⟨wo.heap.size, 0, none⟩) K K]) := Lib.hid (by rw [hwz3]; exact Blk.new wz2 _ _)
                              have HTwz3 := Lib.hid (HTwz2.out.ext hbwz3)
                              rw [← hwz3]
                              clear hwz3 hbwz3
                              refine ⟨⟨WB.mk _ HTwz3.out.b, rfl⟩, ?_⟩
                              refine oneT 0 9 (by kernel_rfl) (by decide) ?_
                              simp only [List.take_succ_cons, List.take_zero, List.drop_succ_cons, List.drop_zero]
                              go_wp2_with (at_builtin; refine wpList_appB elRows rfl (.tmp 77) (.tmp 79) rfl (g + 4) vm k 1 wz2.heap.size vs [.slice (some ⟨wo.heap.size, 0, none⟩) K K] rfl (by have := HTwz3.out.m.row; rw [HLMk.out] at this; exact this) rfl HBK8wz3.out rfl (by intro q hq; rw [List.mem_singleton] at hq; rw [hq]; exact HU1.out) (by omega) (by omega) HTwz3.out.base_le ?_; intro vwz4 wz4 hown hgr hat; have HTwz4 := Lib.hid (HTwz3.out.appM hgr (by rw [HLMk.out]; exact hown)); obtain ⟨Awz4, cwz4, rfl, -, -⟩ := own_len hown; clear hown hgr hat)
                              refine ⟨⟨WB.mk _ HTwz4.out.b, rfl⟩, ?_⟩
                              refine endT (by kernel_rfl) ?_
                              simp only [List.drop_succ_cons, List.drop_zero]
                              have e1 := HTwz4.out.kd.cell (i := 1) rfl
                              have e2 := HTwz4.out.kd.frozen 1
                              have hk := HTwz4.out.kd.set_ 1 ((.slice Awz2 (k + 1) cwz2))
                              have e3 := hk.cell (i := 2) rfl
                              have e4 := hk.frozen 2
                              have HK9 := Lib.hid (hk.set_ 2 ((.slice Awz4 (k + 1) cwz4)))
                              have HR9 := Lib.hid (own_set (p := ⟨g + 1 + 1 + 1, 2, none⟩) (x := (.slice Awz4 (k + 1) cwz4)) (own_set (p := ⟨g + 1 + 1 + 1, 1, none⟩) (x := (.slice Awz2 (k + 1) cwz2)) HTwz4.out.r (show g + 1 + 1 + 1 < g + 4 by omega)) (show g + 1 + 1 + 1 < g + 4 by omega))
                              have HM9 := Lib.hid ((HTwz4.out.m.set_ (p := ⟨g + 1 + 1 + 1, 1, none⟩) (x := (.slice Awz2 (k + 1) cwz2)) (show g + 1 + 1 + 1 < g + 4 by omega)).set_ (p := ⟨g + 1 + 1 + 1, 2, none⟩) (x := (.slice Awz4 (k + 1) cwz4)) (show g + 1 + 1 + 1 < g + 4 by omega))
                              have HB9 := Lib.hid (((HBd.out.trans (HTwz4.out.b.mono (by omega))).setCell (p := ⟨g + 1 + 1 + 1, 1, none⟩) (show g + 3 ≤ g + 1 + 1 + 1 by omega) ((.slice Awz2 (k + 1) cwz2))).setCell (p := ⟨g + 1 + 1 + 1, 2, none⟩) (show g + 3 ≤ g + 1 + 1 + 1 by omega) ((.slice Awz4 (k + 1) cwz4)))
                              have HAP9 := Lib.hid HTwz4.out.ap
                              clear hk
                              go_wp2_with fail
                              go_roundw
                              case rel => exact ⟨k + 1, _, _, _, by omega, by go_num, HK9, Lib.hid (by have := HR9.out; rw [List.length_append, HLRk.out] at this; rw [HSNR.out]; exact this), Lib.hid (by rw [HSNM.out]; exact HM9.out), HAP9, HB9⟩
                              case measure => simp [intOf]; omega
                          · as_aux_lemma =>
                              simp only [List.take_succ_cons, List.take_zero, List.drop_succ_cons, List.drop_zero]
                              go_wp2_with fail
                              obtain ⟨wz5, hwz5⟩ : ∃ wz5, wz5 = wz1.alloc (.cells #[.slice (some ⟨wo.heap.size, 0, none⟩) K K] 37) := ⟨_, rfl⟩
                              have hbwz5 : Below wz1.heap.size wz1 wz5 := by rw [hwz5]; exact (Below.refl _ _).alloc (Nat.le_refl _) _
                              have HBK8wz5 : Hid (Blk wz5 wz1.heap.size 37 [.slice (some ⟨wo.heap.size, 0, none⟩) K K]) := Lib.hid (by rw [hwz5]; exact Blk.new wz1 _ _)
                              have HTwz5 := Lib.hid (HTwz1.out.ext hbwz5)
                              have HBK3wz1_wz5 : Hid (Blk wz5 wd.heap.size 3 [.int .i64 (-1)]) := Lib.hid (HBK3wz1.out.below' hbwz5)
                              rw [← hwz5]
                              clear hwz5 hbwz5
                              refine ⟨⟨WB.mk _ HTwz5.out.b, rfl⟩, ?_⟩
                              refine oneT 2 4 (by kernel_rfl) (by decide) ?_
                              simp only [List.take_succ_cons, List.take_zero, List.drop_succ_cons, List.drop_zero]
                              go_wp2_with (at_builtin; refine wpList_appB elInts rfl (.tmp 72) (.tmp 74) rfl (g + 4) vr k 1 wd.heap.size (iv ((List.range k).map (rul l))) [.int .i64 (-1)] rfl (by have := HTwz5.out.r; rw [HLRk.out] at this; exact this) rfl HBK3wz1_wz5.out rfl (by simp [Value.oneCell']) (by omega) (by omega) HTwz5.out.base_le ?_; intro vwz6 wz6 hown hgr hat; have HGwz6 := Lib.hid hgr; have HTwz6 := Lib.hid (HTwz5.out.appR hgr (by rw [HLRk.out]; exact hown) hat); obtain ⟨Awz6, cwz6, rfl, -, -⟩ := own_len hown; clear hown hgr hat)
                              refine ⟨⟨WB.mk _ HTwz6.out.b, rfl⟩, ?_⟩
                              have HBK8wz5_wz6 : Hid (Blk wz6 wz1.heap.size 37 [.slice (some ⟨wo.heap.size, 0, none⟩) K K]) := Lib.hid (HBK8wz5.out.grown HGwz6.out (fun e => by obtain ⟨us, hu⟩ := own_ty HTwz5.out.r e.symm; exact absurd (Blk.type_eq HBK8wz5.out hu) (by decide)))
                              show wpAnyT _ _ _ _ _ _ _ (1 + 1) _ _ _
                              refine takeT 1 10 1 (by kernel_rfl) (by kernel_rfl) (fun _ _ d _ _ h => by cases d <;> exact h) ⟨⟨_, HTwz6.out.b⟩, rfl⟩ ?_
                              simp only [List.take_succ_cons, List.take_zero, List.drop_succ_cons, List.drop_zero]
                              simp only [Act.put, Array.set!_eq_setIfInBounds, List.setIfInBounds_toArray, List.set_cons_succ, List.set_cons_zero]
                              repeat (first | go_big_quiet_skip | (go_big_quiet_want; go_big_quiet_op; go_big_quiet_on))
                              refine wpQuiet_nil ?_
                              refine oneT 0 9 (by kernel_rfl) (by decide) ?_
                              simp only [List.take_succ_cons, List.take_zero, List.drop_succ_cons, List.drop_zero]
                              go_wp2_with (at_builtin; refine wpList_appB elRows rfl (.tmp 77) (.tmp 79) rfl (g + 4) vm k 1 wz1.heap.size vs [.slice (some ⟨wo.heap.size, 0, none⟩) K K] rfl (by have := HTwz6.out.m.row; rw [HLMk.out] at this; exact this) rfl HBK8wz5_wz6.out rfl (by intro q hq; rw [List.mem_singleton] at hq; rw [hq]; exact HU1.out) (by omega) (by omega) HTwz6.out.base_le ?_; intro vwz7 wz7 hown hgr hat; have HTwz7 := Lib.hid (HTwz6.out.appM hgr (by rw [HLMk.out]; exact hown)); obtain ⟨Awz7, cwz7, rfl, -, -⟩ := own_len hown; clear hown hgr hat)
                              refine ⟨⟨WB.mk _ HTwz7.out.b, rfl⟩, ?_⟩
                              refine endT (by kernel_rfl) ?_
                              simp only [List.drop_succ_cons, List.drop_zero]
                              have e1 := HTwz7.out.kd.cell (i := 1) rfl
                              have e2 := HTwz7.out.kd.frozen 1
                              have hk := HTwz7.out.kd.set_ 1 ((.slice Awz6 (k + 1) cwz6))
                              have e3 := hk.cell (i := 2) rfl
                              have e4 := hk.frozen 2
                              have HK9 := Lib.hid (hk.set_ 2 ((.slice Awz7 (k + 1) cwz7)))
                              have HR9 := Lib.hid (own_set (p := ⟨g + 1 + 1 + 1, 2, none⟩) (x := (.slice Awz7 (k + 1) cwz7)) (own_set (p := ⟨g + 1 + 1 + 1, 1, none⟩) (x := (.slice Awz6 (k + 1) cwz6)) HTwz7.out.r (show g + 1 + 1 + 1 < g + 4 by omega)) (show g + 1 + 1 + 1 < g + 4 by omega))
                              have HM9 := Lib.hid ((HTwz7.out.m.set_ (p := ⟨g + 1 + 1 + 1, 1, none⟩) (x := (.slice Awz6 (k + 1) cwz6)) (show g + 1 + 1 + 1 < g + 4 by omega)).set_ (p := ⟨g + 1 + 1 + 1, 2, none⟩) (x := (.slice Awz7 (k + 1) cwz7)) (show g + 1 + 1 + 1 < g + 4 by omega))
                              have HB9 := Lib.hid (((HBd.out.trans (HTwz7.out.b.mono (by omega))).setCell (p := ⟨g + 1 + 1 + 1, 1, none⟩) (show g + 3 ≤ g + 1 + 1 + 1 by omega) ((.slice Awz6 (k + 1) cwz6))).setCell (p := ⟨g + 1 + 1 + 1, 2, none⟩) (show g + 3 ≤ g + 1 + 1 + 1 by omega) ((.slice Awz7 (k + 1) cwz7)))
                              have HAP9 := Lib.hid HTwz7.out.ap
                              clear hk
                              go_wp2_with fail
                              go_roundw
                              case rel => exact ⟨k + 1, _, _, _, by omega, by go_num, HK9, Lib.hid (by have := HR9.out; rw [List.length_append, HLRk.out] at this; rw [HSNR.out]; exact this), Lib.hid (by rw [HSNM.out]; exact HM9.out), HAP9, HB9⟩
                              case measure => simp [intOf]; omega
                      · as_aux_lemma =>
                          simp only [List.take_succ_cons, List.take_zero, List.drop_succ_cons, List.drop_zero]
                          go_wp2_with fail
                          obtain ⟨wz8, hwz8⟩ : ∃ wz8, wz8 = wd.alloc (.cells #[.slice (some ⟨wo.heap.size, 0, none⟩) K K] 37) := ⟨_, rfl⟩
                          have hbwz8 : Below wd.heap.size wd wz8 := by rw [hwz8]; exact (Below.refl _ _).alloc (Nat.le_refl _) _
                          have HBK8wz8 : Hid (Blk wz8 wd.heap.size 37 [.slice (some ⟨wo.heap.size, 0, none⟩) K K]) := Lib.hid (by rw [hwz8]; exact Blk.new wd _ _)
                          have HTwz8 := Lib.hid (HT0.out.ext hbwz8)
                          rw [← hwz8]
                          clear hwz8 hbwz8
                          refine ⟨⟨WB.mk _ HTwz8.out.b, rfl⟩, ?_⟩
                          refine oneT 3 3 (by kernel_rfl) (by decide) ?_
                          simp only [List.take_succ_cons, List.take_zero, List.drop_succ_cons, List.drop_zero]
                          go_wp2_with fail
                          obtain ⟨wz9, hwz9⟩ : ∃ wz9, wz9 = wz8.alloc (.cells #[.int .i64 (-1)] 3) := ⟨_, rfl⟩
                          have hbwz9 : Below wz8.heap.size wz8 wz9 := by rw [hwz9]; exact (Below.refl _ _).alloc (Nat.le_refl _) _
                          have HBK3wz9 : Hid (Blk wz9 wz8.heap.size 3 [.int .i64 (-1)]) := Lib.hid (by rw [hwz9]; exact Blk.new wz8 _ _)
                          have HTwz9 := Lib.hid (HTwz8.out.ext hbwz9)
                          have HBK8wz8_wz9 : Hid (Blk wz9 wd.heap.size 37 [.slice (some ⟨wo.heap.size, 0, none⟩) K K]) := Lib.hid (HBK8wz8.out.below' hbwz9)
                          rw [← hwz9]
                          clear hwz9 hbwz9
                          refine ⟨⟨WB.mk _ HTwz9.out.b, rfl⟩, ?_⟩
                          refine oneT 2 4 (by kernel_rfl) (by decide) ?_
                          simp only [List.take_succ_cons, List.take_zero, List.drop_succ_cons, List.drop_zero]
                          go_wp2_with (at_builtin; refine wpList_appB elInts rfl (.tmp 72) (.tmp 74) rfl (g + 4) vr k 1 wz8.heap.size (iv ((List.range k).map (rul l))) [.int .i64 (-1)] rfl (by have := HTwz9.out.r; rw [HLRk.out] at this; exact this) rfl HBK3wz9.out rfl (by simp [Value.oneCell']) (by omega) (by omega) HTwz9.out.base_le ?_; intro vwz10 wz10 hown hgr hat; have HGwz10 := Lib.hid hgr; have HTwz10 := Lib.hid (HTwz9.out.appR hgr (by rw [HLRk.out]; exact hown) hat); obtain ⟨Awz10, cwz10, rfl, -, -⟩ := own_len hown; clear hown hgr hat)
                          refine ⟨⟨WB.mk _ HTwz10.out.b, rfl⟩, ?_⟩
                          have HBK8wz8_wz9_wz10 : Hid (Blk wz10 wd.heap.size 37 [.slice (some ⟨wo.heap.size, 0, none⟩) K K]) := Lib.hid (HBK8wz8_wz9.out.grown HGwz10.out (fun e => by obtain ⟨us, hu⟩ := own_ty HTwz9.out.r e.symm; exact absurd (Blk.type_eq HBK8wz8_wz9.out hu) (by decide)))
                          show wpAnyT _ _ _ _ _ _ _ (1 + 1) _ _ _
                          refine takeT 1 10 1 (by kernel_rfl) (by kernel_rfl) (fun _ _ d _ _ h => by cases d <;> exact h) ⟨⟨_, HTwz10.out.b⟩, rfl⟩ ?_
                          simp only [List.take_succ_cons, List.take_zero, List.drop_succ_cons, List.drop_zero]
                          simp only [Act.put, Array.set!_eq_setIfInBounds, List.setIfInBounds_toArray, List.set_cons_succ, List.set_cons_zero]
                          repeat (first | go_big_quiet_skip | (go_big_quiet_want; go_big_quiet_op; go_big_quiet_on))
                          refine wpQuiet_nil ?_
                          refine oneT 0 9 (by kernel_rfl) (by decide) ?_
                          simp only [List.take_succ_cons, List.take_zero, List.drop_succ_cons, List.drop_zero]
                          go_wp2_with (at_builtin; refine wpList_appB elRows rfl (.tmp 77) (.tmp 79) rfl (g + 4) vm k 1 wd.heap.size vs [.slice (some ⟨wo.heap.size, 0, none⟩) K K] rfl (by have := HTwz10.out.m.row; rw [HLMk.out] at this; exact this) rfl HBK8wz8_wz9_wz10.out rfl (by intro q hq; rw [List.mem_singleton] at hq; rw [hq]; exact HU1.out) (by omega) (by omega) HTwz10.out.base_le ?_; intro vwz11 wz11 hown hgr hat; have HTwz11 := Lib.hid (HTwz10.out.appM hgr (by rw [HLMk.out]; exact hown)); obtain ⟨Awz11, cwz11, rfl, -, -⟩ := own_len hown; clear hown hgr hat)
                          refine ⟨⟨WB.mk _ HTwz11.out.b, rfl⟩, ?_⟩
                          refine endT (by kernel_rfl) ?_
                          simp only [List.drop_succ_cons, List.drop_zero]
                          have e1 := HTwz11.out.kd.cell (i := 1) rfl
                          have e2 := HTwz11.out.kd.frozen 1
                          have hk := HTwz11.out.kd.set_ 1 ((.slice Awz10 (k + 1) cwz10))
                          have e3 := hk.cell (i := 2) rfl
                          have e4 := hk.frozen 2
                          have HK9 := Lib.hid (hk.set_ 2 ((.slice Awz11 (k + 1) cwz11)))
                          have HR9 := Lib.hid (own_set (p := ⟨g + 1 + 1 + 1, 2, none⟩) (x := (.slice Awz11 (k + 1) cwz11)) (own_set (p := ⟨g + 1 + 1 + 1, 1, none⟩) (x := (.slice Awz10 (k + 1) cwz10)) HTwz11.out.r (show g + 1 + 1 + 1 < g + 4 by omega)) (show g + 1 + 1 + 1 < g + 4 by omega))
                          have HM9 := Lib.hid ((HTwz11.out.m.set_ (p := ⟨g + 1 + 1 + 1, 1, none⟩) (x := (.slice Awz10 (k + 1) cwz10)) (show g + 1 + 1 + 1 < g + 4 by omega)).set_ (p := ⟨g + 1 + 1 + 1, 2, none⟩) (x := (.slice Awz11 (k + 1) cwz11)) (show g + 1 + 1 + 1 < g + 4 by omega))
                          have HB9 := Lib.hid (((HBd.out.trans (HTwz11.out.b.mono (by omega))).setCell (p := ⟨g + 1 + 1 + 1, 1, none⟩) (show g + 3 ≤ g + 1 + 1 + 1 by omega) ((.slice Awz10 (k + 1) cwz10))).setCell (p := ⟨g + 1 + 1 + 1, 2, none⟩) (show g + 3 ≤ g + 1 + 1 + 1 by omega) ((.slice Awz11 (k + 1) cwz11)))
                          have HAP9 := Lib.hid HTwz11.out.ap
                          clear hk
                          go_wp2_with fail
                          go_roundw
                          case rel => exact ⟨k + 1, _, _, _, by omega, by go_num, HK9, Lib.hid (by have := HR9.out; rw [List.length_append, HLRk.out] at this; rw [HSNR.out]; exact this), Lib.hid (by rw [HSNM.out]; exact HM9.out), HAP9, HB9⟩
                          case measure => simp [intOf]; omega
      · as_aux_lemma =>
          have d1 : decide ((k : Int) < (n : Int) + 1) = false := decide_eq_false (by omega)
          have e : k = n + 1 := by omega
          subst e
          have hkr := HKR.out.below HB.out (show g + 1 + 1 < g + 3 by omega)
          have zf0 := HKD.out.cell (i := 0) rfl
          have zf1 := HKD.out.cell (i := 1) rfl
          have zf2 := HKD.out.cell (i := 2) rfl
          have r0 := hkr.cell (i := 0) rfl
          have r1 := hkr.cell (i := 1) rfl
          have r2 := hkr.cell (i := 2) rfl
          have e0 := hkr.frozen 0
          have e1 := hkr.frozen 1
          have e2 := hkr.frozen 2
          have hrs := hkr.lt
          have er : fulR l = (List.range (n + 1)).map (rul l) := by unfold fulR; rw [Hl.out]
          have em : fulM l C = (List.range (n + 1)).map (fulRow l C) := by unfold fulM; rw [Hl.out]
          have hlr : (fulR l).length = n + 1 := by rw [er]; simp
          have hlm : (fulM l C).length = n + 1 := by rw [em]; simp
          have hor : wr.ownsRow (g + 4) 3 1 vr (fulR l).length (iv (fulR l)) := by rw [hlr, er]; exact HVR.out
          have hom := HVM.out
          rw [← em] at hom
          obtain ⟨Ar, cr, rfl, hr1, hr2, -⟩ := own_rd hor
          obtain ⟨Am, cm, rfl, hm1, hm2, -⟩ := hom.rd
          rw [hlr] at zf1 hr1
          rw [hlm] at zf2 hm1
          have HLR := Lib.hid hlr; have HLM := Lib.hid hlm
          have HRD : Hid (wr.ownsRow (g + 4) 3 1 (.slice Ar (n + 1) cr) (fulR l).length (iv (fulR l))) := Lib.hid (by rw [← HLR.out]; exact hor)
          have HMD : Hid (OwM wr (g + 4) (.slice Am (n + 1) cm) vs (fulM l C)) := Lib.hid (by rw [← HLM.out]; exact hom)
          have HKR2 := Lib.hid hkr
          clear er em hlr hlm hor hkr hom a0 x0 x1 x2 hww
          go_wp2_with fail
          obtain ⟨w7, hw7⟩ : ∃ w7, w7 = (((wr.setCell ⟨g + 1 + 1, 0, none⟩ (.int .i64 (K : Int))).setCell ⟨g + 1 + 1, 1, none⟩ (.slice Ar (n + 1) cr)).setCell ⟨g + 1 + 1, 2, none⟩ (.slice Am (n + 1) cm)) := ⟨_, rfl⟩
          have k7 : Blk w7 (g + 1 + 1) 46 [.int .i64 (K : Int), .slice Ar (n + 1) cr, .slice Am (n + 1) cm] := by rw [hw7]; exact ((HKR2.out.set_ 0 _).set_ 1 _).set_ 2 _
          have hb7 : Below g wr w7 := by rw [hw7]; exact (((Below.refl _ _).setCell (p := ⟨g + 1 + 1, 0, none⟩) (show g ≤ g + 1 + 1 by omega) _).setCell (p := ⟨g + 1 + 1, 1, none⟩) (show g ≤ g + 1 + 1 by omega) _).setCell (p := ⟨g + 1 + 1, 2, none⟩) (show g ≤ g + 1 + 1 by omega) _
          have o7 : w7.ownsRow (g + 4) 3 1 (.slice Ar (n + 1) cr) (fulR l).length (iv (fulR l)) := by rw [hw7]; exact own_set (p := ⟨g + 1 + 1, 2, none⟩) (own_set (p := ⟨g + 1 + 1, 1, none⟩) (own_set (p := ⟨g + 1 + 1, 0, none⟩) HRD.out (show g + 1 + 1 < g + 4 by omega)) (show g + 1 + 1 < g + 4 by omega)) (show g + 1 + 1 < g + 4 by omega)
          have m7 : OwM w7 (g + 4) (.slice Am (n + 1) cm) vs (fulM l C) := by rw [hw7]; exact ((HMD.out.set_ (p := ⟨g + 1 + 1, 0, none⟩) (show g + 1 + 1 < g + 4 by omega)).set_ (p := ⟨g + 1 + 1, 1, none⟩) (show g + 1 + 1 < g + 4 by omega)).set_ (p := ⟨g + 1 + 1, 2, none⟩) (show g + 1 + 1 < g + 4 by omega)
          rw [← hw7]
          clear hw7
          refine bodyPost_ret (results_cell_row rfl _ _ (g + 1 + 1) _ #[.int .i64 (K : Int), .slice Ar (n + 1) cr, .slice Am (n + 1) cm] _ _ rfl k7 Tryz.underlying46 rfl (by kernel_rfl)) rfl ?_
          have hbw : Below g w w7 := (HB0.out.trans (HB.out.mono (by omega))).trans hb7
          have hgw := HG.out
          exact ⟨Ar, Am, cr, cm, rfl, hr1, hr2, hm1, hm2, own_rdS o7, m7.rdS, hgw ▸ hbw⟩
end Go.Proofs.YtkcpfpofimkkiaaGreatDoor
