/- The document's dead states, walked. · Plain: the program's sets of moves: by state and by where they lead. No program here. -/
import Derived.Test.YthikgdogfkjioaaGreatDoorQ17
import Derived.Deep.LoopGhost
import Derived.Test.YthikgdogfkjioaaGreatDoorQ16
namespace Go.Proofs.YthikgdogfkjioaaGreatDoor
open Go.RowKit BigFrame
set_option linter.unusedVariables false
set_option linter.unusedSimpArgs false
set_option maxRecDepth 100000

/-- Something that is known to live can be come to. -/
def okL (ru : Nat → Int) (mv : Nat → Nat → Nat) (L : List Bool) (c i : Nat) : Prop := 0 ≤ ru i ∨ ∃ c', c' < c ∧ bth L (mv i c') = true
def deadN (L : List Bool) : Nat := L.countP fun b => !b
theorem countP_set {p : Bool → Bool} : ∀ {L : List Bool} {i : Nat} {b : Bool} (hi : i < L.length), p L[i] = true → p b = false → (L.set i b).countP p + 1 = L.countP p
  | a :: L, 0, b, _, h1, h2 => by
    simp only [List.getElem_cons_zero] at h1
    simp [List.countP_cons, h1, h2]
  | a :: L, i + 1, b, hi, h1, h2 => by
    have := countP_set (p := p) (L := L) (i := i) (b := b) (by simpa using hi) (by simpa using h1) h2
    simp only [List.set_cons_succ, List.countP_cons]
    omega
theorem deadN_lt {L : List Bool} {i : Nat} (hi : i < L.length) (h : bth L i = false) : deadN (L.set i true) < deadN L := by
  have := countP_set (p := fun b => !b) (L := L) (i := i) (b := true) hi (by rw [bth_get hi] at h; rw [h]; rfl) rfl
  unfold deadN
  omega

set_option maxHeartbeats 8000000 in
theorem dead_any (Ac Ar Am : Option Addr) (cc cr cm K n : Nat) (C : List (List Rg)) (R : List Int) (M : List (List Int)) (ru : Nat → Int) (mv : Nat → Nat → Nat) (w : World) (B : Nat) (hB : B ≤ w.heap.size) (h : FuR w B C R M Ac Ar Am cc cr cm) (hp : FuP K n ru mv R M) (hC : C.length = K) (hK : K ≤ 1000) (h0 : 0 < n) (hn : n ≤ 1001) :
    Calls Tryz.prog 31 #[.agg #[.slice Ac K cc, .slice Ar n cr, .slice Am n cm]] w fun e w' => ∃ D, e = .returned (.slice (some ⟨D, 0, none⟩) n n) ∧ w.heap.size ≤ D ∧ ∃ L, Blk w' D 4 (bv L) ∧ L.length = n ∧ Below w.heap.size w w' ∧
      (∀ s, s < n → (bth L s = false ↔ Live ru mv (· < K) s)) := by
  have HP := Lib.hid hp; have HF := Lib.hid h
  have hcK := h.c1
  have hmk : ∀ w : World, (Instr.makeSlice 57 (.int .i64 (n : Int)) (.int .i64 (n : Int))).run Tryz.prog w = .ok (.slice (some ⟨w.heap.size, 0, none⟩) n n) (w.alloc (.cells (zs (.bool false) n) 4)) := fun w =>
    mk_row elBs rfl .i64 .i64 n _ (by omega) (by omega) (by omega) w
  obtain ⟨g, hg⟩ : ∃ g, w.heap.size = g := ⟨_, rfl⟩
  obtain ⟨W1, hW1⟩ : ∃ W1, W1 = (w.alloc (.cells #[.slice Ac K cc, .slice Ar n cr, .slice Am n cm] 48)).alloc (.cells (zs (.bool false) n) 4) := ⟨_, rfl⟩
  have hs1 : W1.heap.size = g + 1 + 1 := by rw [hW1, ← hg]; simp
  have hb1 : Below g w W1 := by rw [hW1, ← hg]; exact ((Below.refl _ _).alloc (Nat.le_refl _) _).alloc (by simp) _
  have hk1 : Blk W1 g 48 [.slice Ac K cc, .slice Ar n cr, .slice Am n cm] := by rw [hW1, ← hg]; exact (Blk.new w _ _).alloc _
  have hl1 : Blk W1 (g + 1) 4 (bv (List.replicate n false)) := by
    rw [hW1, ← bv_rep]
    have := Blk.made (w.alloc (.cells #[.slice Ac K cc, .slice Ar n cr, .slice Am n cm] 48)) 4 (.bool false) n
    rw [show (w.alloc (.cells #[.slice Ac K cc, .slice Ar n cr, .slice Am n cm] 48)).heap.size = g + 1 by rw [← hg]; simp] at this
    exact this
  obtain ⟨rb, ro, rfl, hrb, hrc⟩ := h.r.at_ (by rw [hp.rl]; exact h0)
  obtain ⟨mb, mo, rfl, hmb, hmr⟩ := h.m (by rw [hp.ml]; exact h0)
  have hgB : B ≤ g := by omega
  have HB1 := Lib.hid hb1; have HK1 := Lib.hid hk1; have HS1 := Lib.hid hs1; have HG := Lib.hid hg; have HL1 := Lib.hid hl1
  have HRC : Hid (∀ wr, Below (g + 1) W1 wr → ∀ j, j < n → wr.cell? ⟨rb, ro + j, none⟩ = some (.int .i64 (ru j))) := Lib.hid (fun wr hb j hj => by
    have hb2 := hb1.trans (hb.mono (Nat.le_succ g))
    have := hrc j (by rw [hp.rl]; exact hj)
    rw [hp.r j hj] at this
    exact (hb2.cell (p := ⟨rb, ro + j, none⟩) (show rb < g by omega)).trans this)
  have HMR : Hid (∀ wr, Below (g + 1) W1 wr → ∀ k, k < n → ∃ b2 o2 c2, K ≤ c2 ∧ c2 ≤ maxLen ∧ (∃ A2, (0 < K → A2 = some ⟨b2, o2, none⟩) ∧ wr.cell? ⟨mb, mo + k, none⟩ = some (.slice A2 K c2)) ∧ ∀ c, c < K → wr.cell? ⟨b2, o2 + c, none⟩ = some (.int .i64 (mv k c : Int))) := Lib.hid (fun wr hb k hk => by
    have hb2 := hb1.trans (hb.mono (Nat.le_succ g))
    obtain ⟨A', c', z, q1, q2, r⟩ := hmr k (by rw [hp.ml]; exact hk)
    obtain ⟨e1, e2⟩ := hp.m k hk
    rw [e1] at z q1
    have z2 := (hb2.cell (p := ⟨mb, mo + k, none⟩) (show mb < g by omega)).trans z
    by_cases hK0 : 0 < K
    · obtain ⟨b2, o2, rfl, hb3, hc3⟩ := r.at_ (by rw [e1]; exact hK0)
      refine ⟨b2, o2, c', q1, q2, ⟨_, fun _ => rfl, z2⟩, fun c hc => ?_⟩
      have := hc3 c (by rw [e1]; exact hc)
      rw [e2 c hc] at this
      exact (hb2.cell (p := ⟨b2, o2 + c, none⟩) (show b2 < g by omega)).trans this
    · exact ⟨0, 0, c', q1, q2, ⟨A', fun q => absurd q hK0, z2⟩, fun c hc => absurd hc (by omega)⟩)
  have z0 := (Blk.new w 48 [.slice Ac K cc, .slice (some ⟨rb, ro, none⟩) n cr, .slice (some ⟨mb, mo, none⟩) n cm]).cell (i := 0) rfl
  have z1 := (Blk.new w 48 [.slice Ac K cc, .slice (some ⟨rb, ro, none⟩) n cr, .slice (some ⟨mb, mo, none⟩) n cm]).cell (i := 1) rfl
  clear hrc hmr hb1 hk1 hs1 h hp hC hcK hl1
  go_enter Tryz.func31, Tryz.ntmps31
  go_wp2_with fail
  rw [← hW1]
  clear hW1 hg z0 z1
  go_loopg [5] (deadN (List.replicate n false) + 1) (fun gk ag wr => ∃ (b : Bool) (L : List Bool), ag = .bool b ∧ gk = (if b then deadN L + 1 else 0) ∧ Hid (Below (g + 1) W1 wr ∧ Blk wr (g + 1) 4 (bv L) ∧ L.length = n) ∧ Hid (∀ s, s < n → bth L s = true → Live ru mv (· < K) s) ∧ Hid (b = false → ∀ s, s < n → okL ru mv L K s → bth L s = true))
  case atStart => exact ⟨true, _, rfl, rfl, ⟨Below.refl _ _, HL1.out, List.length_replicate⟩, fun s hs h => (by unfold bth at h; rw [List.getD_eq_getElem?_getD, List.getElem?_replicate, if_pos hs] at h; cases h), fun h => by cases h⟩
  case round =>
    clear HL1
    obtain ⟨b, L0, rfl, hgk, HM0, HLV0, HCL0⟩ := hrel
    have hk1 := HK1.out.below HM0.out.1 (Nat.lt_succ_self g)
    have z1 := hk1.cell (i := 1) rfl
    cases b
    · as_aux_lemma =>
        have hls : Hid (∀ s, s < n → (bth L0 s = true ↔ Live ru mv (· < K) s)) := Lib.hid (fun s hs => live_of_closed (n := n) (fun s c hs hc => HP.out.lt s c hs hc) (fun s hs h => HCL0.out (by simp) s hs (.inl h)) (fun s c hs hc h => HCL0.out (by simp) s hs (.inr ⟨c, hc, h⟩)) HLV0.out hs)
        clear HLV0 HCL0 hgk
        go_wp2_with fail
        obtain ⟨wo, rfl⟩ : ∃ wo : World, wo = wr := ⟨_, rfl⟩
        obtain ⟨wm, hwm⟩ : ∃ wm, wm = wo.alloc (.cells (zs (.bool false) n) 4) := ⟨_, rfl⟩
        rw [← hwm]
        have hsm : wm.heap.size = wo.heap.size + 1 := by rw [hwm]; simp
        have hbm : Below wo.heap.size wo wm := by rw [hwm]; exact (Below.refl _ _).alloc (Nat.le_refl _) _
        have hblk : Blk wm wo.heap.size 4 (bv (List.replicate n false)) := by rw [hwm, ← bv_rep]; exact Blk.made wo 4 (.bool false) n
        have HBM := Lib.hid hbm; have HBK := Lib.hid hblk
        have HL0 := Lib.hid (HM0.out.2.1.below' hbm)
        have hlt0 := HM0.out.2.1.lt
        clear hwm hbm hblk
        go_loopw [10] (fun iv wr => ∃ (i : Nat) (L : List Bool), i ≤ n ∧ iv = .int .i64 (i : Int) ∧ Hid (Kp (fun q => q = wo.heap.size) wm wr) ∧ Hid (Blk wr wo.heap.size 4 (bv L) ∧ L.length = n ∧ ∀ t, t < i → bth L t = !bth L0 t)) (fun iv _ => n - (intOf iv).toNat)
        case atStart => exact ⟨0, _, Nat.zero_le _, rfl, Kp.refl _ _, HBK.out, List.length_replicate, fun t h => absurd h (by omega)⟩
        case round =>
          as_aux_lemma =>
            clear HBK z1 hk1
            obtain ⟨i, L, hi, rfl, HKP, HL⟩ := hrel
            by_cases hin : i < n
            · as_aux_lemma =>
                have di : decide ((i : Int) < (n : Int)) = true := decide_eq_true (by omega)
                have y1 : wr.cell? ⟨g + 1, i, none⟩ = some (.bool (bth L0 i)) := (HKP.out.cell (p := ⟨g + 1, i, none⟩) (show g + 1 < wm.heap.size by omega) (show ¬ g + 1 = wo.heap.size by omega)).trans (HL0.out.bcell (k := i) (by rw [HM0.out.2.2]; exact hin))
                have y2 := HL.out.1.bcell (k := i) (by rw [HL.out.2.1]; exact hin)
                have y3 := HL.out.1.frozen i
                have HL2 : Hid (Blk (wr.setCell ⟨wo.heap.size, i, none⟩ (.bool (!bth L0 i))) wo.heap.size 4 (bv (L.set i (!bth L0 i))) ∧ (L.set i (!bth L0 i)).length = n ∧ ∀ t, t < i + 1 → bth (L.set i (!bth L0 i)) t = !bth L0 t) := Lib.hid ⟨HL.out.1.bset i _, by rw [List.length_set]; exact HL.out.2.1, fun t ht => by
                  rw [bth_set (by rw [HL.out.2.1]; exact hin)]
                  by_cases e : i = t
                  · subst e; rw [if_pos rfl]
                  · rw [if_neg e]; exact HL.out.2.2 t (by omega)⟩
                have HKP2 := Lib.hid (HKP.out.set_ (p := ⟨wo.heap.size, i, none⟩) (.inr rfl) (.bool (!bth L0 i)))
                generalize bth L i = o1 at *
                generalize bth L0 i = o2 at *
                go_wp2_with fail
                go_roundw
                case rel => exact ⟨i + 1, _, by omega, by go_num, HKP2, HL2⟩
                case measure => simp [intOf]; omega
            · as_aux_lemma =>
                have di : decide ((i : Int) < (n : Int)) = false := decide_eq_false (by omega)
                have e : i = n := by omega
                go_wp2_with fail
                go_ret
                have hgw := HG.out
                have hbw : Below g w wr := (HB1.out.trans (HM0.out.1.mono (Nat.le_succ g))).trans ((HBM.out.mono (by omega)).trans (HKP.out.bel (by omega) (fun q h1 h2 => by omega)))
                refine ⟨wo.heap.size, rfl, by omega, L, HL.out.1, HL.out.2.1, by rw [hgw]; exact hbw, fun s hs => ?_⟩
                rw [HL.out.2.2 s (by omega), ← hls.out s hs]
                cases bth L0 s <;> simp
    · as_aux_lemma =>
        have HGK := Lib.hid hgk
        clear hgk HCL0
        go_wp2_with fail
        obtain ⟨wo2, rfl⟩ : ∃ wo2 : World, wo2 = wr := ⟨_, rfl⟩
        go_loopw [5, 6] (fun ag iv wr => ∃ (i : Nat) (b : Bool) (L : List Bool), i ≤ n ∧ iv = .int .i64 (i : Int) ∧ ag = .bool b ∧ Hid (Below (g + 1) W1 wr ∧ Blk wr (g + 1) 4 (bv L) ∧ L.length = n) ∧ Hid (∀ s, s < n → bth L s = true → Live ru mv (· < K) s) ∧ Hid ((b = true → deadN L < deadN L0) ∧ (b = false → L = L0 ∧ ∀ s, s < i → okL ru mv L K s → bth L s = true))) (fun _ iv _ => n - (intOf iv).toNat)
        case atStart => exact ⟨0, false, L0, Nat.zero_le _, rfl, rfl, HM0, HLV0, ⟨fun h => (by cases h), fun _ => ⟨rfl, fun s h => absurd h (by omega)⟩⟩⟩
        case round =>
          as_aux_lemma =>
            clear HM0 HLV0 z1 hk1
            obtain ⟨i, b, L, hi, rfl, rfl, HM, HLV, HX⟩ := hrel
            have hk1 := HK1.out.below HM.out.1 (Nat.lt_succ_self g)
            have z0 := hk1.cell (i := 0) rfl
            have z1 := hk1.cell (i := 1) rfl
            have z2 := hk1.cell (i := 2) rfl
            clear hk1
            by_cases hin : i < n
            · as_aux_lemma =>
                have di : decide ((i : Int) < (n : Int)) = true := decide_eq_true (by omega)
                have y1 := HRC.out wr HM.out.1 i hin
                have HRU : Hid (decide (0 ≤ ru i) = true ↔ 0 ≤ ru i) := Lib.hid (by simp)
                obtain ⟨r, hr⟩ : ∃ r, r = ru i := ⟨_, rfl⟩
                rw [← hr] at y1
                have HR := Lib.hid hr
                clear hr
                go_wp2_with fail
                go_loop [7, 8] (fun okv cv => ∃ (c : Nat) (q : Bool), c ≤ K ∧ cv = .int .i64 (c : Int) ∧ okv = .bool q ∧ Hid (q = true ↔ okL ru mv L c i)) (fun _ cv => K - (intOf cv).toNat)
                case atStart => exact ⟨0, decide (0 ≤ r), Nat.zero_le _, rfl, rfl, Lib.hid (by unfold okL; rw [← HR.out]; simp)⟩
                case round =>
                  as_aux_lemma =>
                    obtain ⟨c, q, hc, rfl, rfl, HQ⟩ := hrel
                    by_cases hcK : c < K
                    · have dc : decide ((c : Int) < (K : Int)) = true := decide_eq_true (by omega)
                      cases q
                      · as_aux_lemma =>
                          obtain ⟨b2, o2, c2, p1, p2, ⟨A2, hA2, x1⟩, x2a⟩ := HMR.out wr HM.out.1 i hin
                          have e2 := hA2 (by omega)
                          subst e2
                          have x2 := x2a c hcK
                          have hmi := HP.out.lt i c hin hcK
                          have y4 := HM.out.2.1.bcell (k := mv i c) (by rw [HM.out.2.2]; exact hmi)
                          have HQ2 : Hid (bth L (mv i c) = true ↔ okL ru mv L (c + 1) i) := Lib.hid (by
                            constructor
                            · intro h; exact .inr ⟨c, by omega, h⟩
                            · rintro (h | ⟨c', h1, h2⟩)
                              · have := HQ.out.2 (.inl h); cases this
                              · by_cases e : c' = c
                                · subst e; exact h2
                                · have := HQ.out.2 (.inr ⟨c', by omega, h2⟩); cases this)
                          clear x2a hA2 HQ
                          generalize bth L (mv i c) = v at *
                          generalize mv i c = mi at *
                          go_wp2_with fail
                          go_roundw
                          case rel => exact ⟨c + 1, v, by omega, by go_num, rfl, HQ2⟩
                          case measure => simp [intOf]; omega
                      · as_aux_lemma =>
                          have HQ2 : Hid (true = true ↔ okL ru mv L (c + 1) i) := Lib.hid ⟨fun _ => by
                            rcases HQ.out.1 rfl with h | ⟨c', h1, h2⟩
                            · exact .inl h
                            · exact .inr ⟨c', by omega, h2⟩, fun _ => rfl⟩
                          clear HQ
                          go_wp2_with fail
                          go_roundw
                          case rel => exact ⟨c + 1, true, by omega, by go_num, rfl, HQ2⟩
                          case measure => simp [intOf]; omega
                    · have dc : decide ((c : Int) < (K : Int)) = false := decide_eq_false (by omega)
                      have e : c = K := by omega
                      subst e
                      have y4 := HM.out.2.1.bcell (k := i) (by rw [HM.out.2.2]; exact hin)
                      have y5 := HM.out.2.1.frozen i
                      cases q
                      · as_aux_lemma =>
                          have HX2 : Hid ((b = true → deadN L < deadN L0) ∧ (b = false → L = L0 ∧ ∀ s, s < i + 1 → okL ru mv L c s → bth L s = true)) := Lib.hid ⟨HX.out.1, fun h => ⟨(HX.out.2 h).1, fun s hs ho => by
                            by_cases e : s = i
                            · subst e; have := HQ.out.2 ho; cases this
                            · exact (HX.out.2 h).2 s (by omega) ho⟩⟩
                          clear HQ
                          go_wp2_with fail
                          go_roundw
                          case rel => exact ⟨i + 1, b, L, by omega, by go_num, rfl, HM, HLV, HX2⟩
                          case measure => simp [intOf]; omega
                      · cases hd : bth L i
                        · as_aux_lemma =>
                            rw [hd] at y4
                            have HLV2 : Hid (∀ s, s < n → bth (L.set i true) s = true → Live ru mv (· < c) s) := Lib.hid (fun s hs h => by
                              rw [bth_set (by rw [HM.out.2.2]; exact hin)] at h
                              by_cases e : i = s
                              · subst e
                                rcases HQ.out.1 rfl with h1 | ⟨c', h1, h2⟩
                                · exact Live.ru h1
                                · exact Live.st h1 (HLV.out _ (HP.out.lt i c' hin h1) h2)
                              · rw [if_neg e] at h; exact HLV.out s hs h)
                            have hle : deadN L ≤ deadN L0 := by
                              cases hb : b
                              · rw [(HX.out.2 hb).1]; exact Nat.le_refl _
                              · exact Nat.le_of_lt (HX.out.1 hb)
                            have HLT : Hid (deadN (L.set i true) < deadN L0) := Lib.hid (Nat.lt_of_lt_of_le (deadN_lt (by rw [HM.out.2.2]; exact hin) hd) hle)
                            have HM4 : Hid (Below (g + 1) W1 (wr.setCell ⟨g + 1, i, none⟩ (.bool true)) ∧ Blk (wr.setCell ⟨g + 1, i, none⟩ (.bool true)) (g + 1) 4 (bv (L.set i true)) ∧ (L.set i true).length = n) := Lib.hid ⟨HM.out.1.setCell (p := ⟨g + 1, i, none⟩) (Nat.le_refl _) _, HM.out.2.1.bset i true, by rw [List.length_set]; exact HM.out.2.2⟩
                            clear hd hle HQ HX HLV
                            go_wp2_with fail
                            go_roundw
                            case rel => exact ⟨i + 1, true, _, by omega, by go_num, rfl, HM4, HLV2, ⟨fun _ => HLT.out, fun h => (by cases h)⟩⟩
                            case measure => simp [intOf]; omega
                        · as_aux_lemma =>
                            rw [hd] at y4
                            have HX2 : Hid ((b = true → deadN L < deadN L0) ∧ (b = false → L = L0 ∧ ∀ s, s < i + 1 → okL ru mv L c s → bth L s = true)) := Lib.hid ⟨HX.out.1, fun h => ⟨(HX.out.2 h).1, fun s hs ho => by
                              by_cases e : s = i
                              · subst e; exact hd
                              · exact (HX.out.2 h).2 s (by omega) ho⟩⟩
                            clear HQ hd
                            go_wp2_with fail
                            go_roundw
                            case rel => exact ⟨i + 1, b, L, by omega, by go_num, rfl, HM, HLV, HX2⟩
                            case measure => simp [intOf]; omega
            · as_aux_lemma =>
                have di : decide ((i : Int) < (n : Int)) = false := decide_eq_false (by omega)
                have e : i = n := by omega
                cases b
                · have HCN : Hid (L = L0 ∧ ∀ s, s < n → okL ru mv L K s → bth L s = true) := Lib.hid (by have := HX.out.2 rfl; rwa [e] at this)
                  clear e HX
                  go_wp2_with fail
                  go_roundg 0
                  case measure => rw [HGK.out]; simp
                  case rel => exact ⟨false, L, rfl, rfl, HM, HLV, fun _ => HCN.out.2⟩
                · have HLT : Hid (deadN L < deadN L0) := Lib.hid (HX.out.1 rfl)
                  clear e HX
                  go_wp2_with fail
                  go_roundg (deadN L + 1)
                  case measure => rw [HGK.out]; simp; exact HLT.out
                  case rel => exact ⟨true, L, rfl, rfl, HM, HLV, fun h => by cases h⟩
end Go.Proofs.YthikgdogfkjioaaGreatDoor
namespace Go.Proofs.YthikgdogfkjioaaGreatDoor
set_option linter.unusedVariables false
set_option linter.unusedSimpArgs false

/-- The points of the moves to t. -/
def toSet (ms : List Mv) (t : Int) : List Rg := (ms.filter fun m => m.2.2 == t).map fun m => (m.1, m.2.1)
/-- Where moves lead, in the order in which they come. -/
def tosOf (ms : List Mv) : List Int := distinct (ms.map fun m => m.2.2)
def setsP (l : List St) : List (List Rg) := l.flatMap fun s => (tosOf s.2).map (toSet s.2)
theorem stp_in {n : Nat} {p : Int} : ∀ {ms : List Mv} {last : Int}, okM n last ms = true → ∀ m ∈ ms, m.1 ≤ p → p ≤ m.2.1 → stp ms p = m.2.2
  | [], _, _, m, hm, _, _ => by cases hm
  | a :: r, last, h, m, hm, h1, h2 => by
    obtain ⟨_, hr⟩ := okM_cons h
    unfold stp
    rcases List.mem_cons.1 hm with rfl | q
    · rw [if_pos ⟨h1, h2⟩]
    · have := (okM_mem hr m q).1
      rw [if_neg (by omega)]
      exact stp_in hr m q h1 h2
theorem stp_out {p : Int} : ∀ {ms : List Mv}, (∀ m ∈ ms, ¬ (m.1 ≤ p ∧ p ≤ m.2.1)) → stp ms p = -1
  | [], _ => rfl
  | a :: r, h => by
    unfold stp
    rw [if_neg (h a (List.mem_cons_self ..))]
    exact stp_out fun m hm => h m (List.mem_cons_of_mem _ hm)
theorem mem_toSet {ms : List Mv} {t p : Int} : memR (toSet ms t) p = true ↔ ∃ m ∈ ms, m.2.2 = t ∧ m.1 ≤ p ∧ p ≤ m.2.1 := by
  unfold memR toSet
  simp only [List.any_map, List.any_eq_true, List.mem_filter, Function.comp, Bool.and_eq_true, decide_eq_true_eq, beq_iff_eq]
  exact ⟨fun ⟨m, ⟨h1, h2⟩, h3⟩ => ⟨m, h1, h2, h3⟩, fun ⟨m, h1, h2, h3⟩ => ⟨m, ⟨h1, h2⟩, h3⟩⟩
theorem setsP_const {l : List St} (hok : okA l = true) {s : Nat} {p q : Int} (hp : isP p) (hq : isP q) (h : sig (setsP l) p = sig (setsP l) q) : dlt l s p = dlt l s q := by
  unfold dlt
  cases e : l[s]? with
  | none => rfl
  | some st =>
    have hst := List.mem_of_getElem? e
    have hm := (okA_state hok e).2
    have key : ∀ t ∈ tosOf st.2, memR (toSet st.2 t) p = memR (toSet st.2 t) q := fun t ht => by
      have h1 := sig_mem h (s := toSet st.2 t) (List.mem_flatMap.2 ⟨st, hst, List.mem_map.2 ⟨t, ht, rfl⟩⟩)
      unfold inR at h1
      rw [isPt_iff.2 hp, isPt_iff.2 hq] at h1
      simpa using h1
    have go : ∀ {a b : Int}, (∀ t ∈ tosOf st.2, memR (toSet st.2 t) a = memR (toSet st.2 t) b) → (∃ m ∈ st.2, m.1 ≤ a ∧ a ≤ m.2.1) → stp st.2 a = stp st.2 b := fun {a b} hk ⟨m, hmm, h1, h2⟩ => by
      have ht : m.2.2 ∈ tosOf st.2 := mem_distinct.2 (List.mem_map.2 ⟨m, hmm, rfl⟩)
      have h3 := hk _ ht
      rw [mem_toSet.2 ⟨m, hmm, rfl, h1, h2⟩] at h3
      obtain ⟨m', g1, g2, g3, g4⟩ := mem_toSet.1 h3.symm
      rw [stp_in hm m hmm h1 h2, stp_in hm m' g1 g3 g4, g2]
    have : stp st.2 p = stp st.2 q := by
      by_cases h1 : ∃ m ∈ st.2, m.1 ≤ p ∧ p ≤ m.2.1
      · exact go key h1
      · by_cases h2 : ∃ m ∈ st.2, m.1 ≤ q ∧ q ≤ m.2.1
        · exact (go (fun t ht => (key t ht).symm) h2).symm
        · rw [stp_out fun m hmm k => h1 ⟨m, hmm, k⟩, stp_out fun m hmm k => h2 ⟨m, hmm, k⟩]
    simp only [this]
/-- On stretches between edges all states step alike. -/
theorem Cls.edged {l : List St} {C : List (List Rg)} {e : List Int} (h : Cls l C.length (repOf C) (clsOf C)) (he : Edged e C) (h0 : ∀ x ∈ e, 0 ≤ x ∧ x ≤ 1114112) (s : Nat) : ∀ pc ∈ stretches e, ∀ p, pc.1 ≤ p → p ≤ pc.2 → dlt l s p = dlt l s pc.1 := fun pc hpc p h1 h2 => by
  obtain ⟨k, hk, rfl⟩ := stretches_at hpc
  simp only at h1 h2 ⊢
  have a0 := h0 _ (List.getElem_mem (show k < e.length by omega))
  have a1 := h0 _ (List.getElem_mem hk)
  have hlt := List.pairwise_iff_getElem.1 he.asc k (k + 1) (by omega) hk (by omega)
  rw [h.co s p ⟨by omega, by omega⟩, h.co s e[k] ⟨by omega, by omega⟩, he.cls hk h1 (by omega)]
end Go.Proofs.YthikgdogfkjioaaGreatDoor
