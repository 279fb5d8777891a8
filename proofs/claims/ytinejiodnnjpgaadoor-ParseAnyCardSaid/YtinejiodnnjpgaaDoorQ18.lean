/- The program's Ok. · The program's Fits. -/
import Derived.Test.YtinejiodnnjpgaaDoorQ7
import Derived.Test.YtinejiodnnjpgaaDoorQ15
import Derived.Test.YtinejiodnnjpgaaDoorQ13
import Derived.Test.YtinejiodnnjpgaaDoorQ6
import Derived.Test.YtinejiodnnjpgaaDoorQ2
namespace Go.Proofs.YtinejiodnnjpgaaDoor
open Go.RowKit
set_option linter.unusedVariables false
set_option linter.unusedSimpArgs false
set_option maxRecDepth 100000

theorem level_any (x : Int) (As : Option Addr) (ns cs g : Nat) (w : World) (hm : ns ≤ maxLen) (h : w.cell? ⟨g, 5, none⟩ = some (.slice As ns cs)) (b : Bool) (hb : b = decide (0 ≤ x ∧ x ≤ ns)) :
    Calls Tryd.prog 49 #[.int .i64 x, .pointer (some ⟨g, 0, none⟩)] w fun e w' => e = .returned (.bool b) ∧ w = w' := by
  unfold maxLen at hm
  by_cases h1 : 0 ≤ x
  · have d1 : decide (0 ≤ x) = true := decide_eq_true h1
    by_cases h2 : x ≤ ns
    · have d2 : decide (x ≤ (ns : Int)) = true := decide_eq_true h2
      have HF : Hid (b = true) := Lib.hid (by rw [hb]; simp [h1, h2])
      clear hb
      go_enter Tryd.func49, Tryd.ntmps49
      go_wp2
      go_ret
      exact ⟨ret_eq (by rw [HF.out]; rfl), rfl⟩
    · have d2 : decide (x ≤ (ns : Int)) = false := decide_eq_false h2
      have HF : Hid (b = false) := Lib.hid (by rw [hb]; simp [h1, h2])
      clear hb
      go_enter Tryd.func49, Tryd.ntmps49
      go_wp2
      go_ret
      exact ⟨ret_eq (by rw [HF.out]; rfl), rfl⟩
  · have d1 : decide (0 ≤ x) = false := decide_eq_false h1
    have HF : Hid (b = false) := Lib.hid (by rw [hb]; simp [h1])
    clear hb
    go_enter Tryd.func49, Tryd.ntmps49
    go_wp2
    go_ret
    exact ⟨ret_eq (by rw [HF.out]; rfl), rfl⟩

set_option maxHeartbeats 4000000 in
theorem ok_any (G : Gr) (Ap Al As : Option Addr) (np cp nl cl ns cs : Nat) (w : World) (B : Nat) (hB : B ≤ w.heap.size) (hG : GrIn w B G Ap Al As np cp nl cl ns cs) :
    Calls Tryd.prog 28 #[.agg #[.int .i64 G.terms, .int .i64 G.names, .int .i64 G.start, .slice Ap np cp, .slice Al nl cl, .slice As ns cs]] w fun e w' => e = .returned (.bool (okB G)) ∧ Below w.heap.size w w' := by
  obtain ⟨hb0, hs0, gb⟩ := gbox w G Ap Al As np cp nl cl ns cs
  obtain ⟨hp1, hp2⟩ := hG.p.len
  have hl1 := hG.ll; have hl2 := hG.sl; have hl3 := hG.lm; have hl4 := hG.sm
  have hl4' := hG.sm
  have hG0 := hG.below (hb0.mono hB)
  unfold maxLen at hp2 hl3 hl4
  by_cases q1 : G.terms < 0
  · have dq1 : decide (G.terms < 0) = true := decide_eq_true q1
    have HF := Lib.hid (okB_f (G := G) (fun h => by have := h.t0; omega))
    clear hp1 hl1 hl2 hG0 gb hG
    go_enter Tryd.func28, Tryd.ntmps28
    go_wp2
    go_ret
    exact ⟨ret_eq (by rw [HF.out]; rfl), hb0⟩
  have dq1 : decide (G.terms < 0) = false := decide_eq_false q1
  by_cases q2 : 300 < G.terms
  · have dq2 : decide (300 < G.terms) = true := decide_eq_true q2
    have HF := Lib.hid (okB_f (G := G) (fun h => by have := h.t1; omega))
    clear hp1 hl1 hl2 hG0 gb hG
    go_enter Tryd.func28, Tryd.ntmps28
    go_wp2
    go_ret
    exact ⟨ret_eq (by rw [HF.out]; rfl), hb0⟩
  have dq2 : decide (300 < G.terms) = false := decide_eq_false q2
  by_cases q3 : G.names < 1
  · have dq3 : decide (G.names < 1) = true := decide_eq_true q3
    have HF := Lib.hid (okB_f (G := G) (fun h => by have := h.n0; omega))
    clear hp1 hl1 hl2 hG0 gb hG
    go_enter Tryd.func28, Tryd.ntmps28
    go_wp2
    go_ret
    exact ⟨ret_eq (by rw [HF.out]; rfl), hb0⟩
  have dq3 : decide (G.names < 1) = false := decide_eq_false q3
  by_cases q4 : 300 < G.names
  · have dq4 : decide (300 < G.names) = true := decide_eq_true q4
    have HF := Lib.hid (okB_f (G := G) (fun h => by have := h.n1; omega))
    clear hp1 hl1 hl2 hG0 gb hG
    go_enter Tryd.func28, Tryd.ntmps28
    go_wp2
    go_ret
    exact ⟨ret_eq (by rw [HF.out]; rfl), hb0⟩
  have dq4 : decide (300 < G.names) = false := decide_eq_false q4
  by_cases q5 : G.start < 0
  · have dq5 : decide (G.start < 0) = true := decide_eq_true q5
    have HF := Lib.hid (okB_f (G := G) (fun h => by have := h.s0; omega))
    clear hp1 hl1 hl2 hG0 gb hG
    go_enter Tryd.func28, Tryd.ntmps28
    go_wp2
    go_ret
    exact ⟨ret_eq (by rw [HF.out]; rfl), hb0⟩
  have dq5 : decide (G.start < 0) = false := decide_eq_false q5
  by_cases q6 : G.names ≤ G.start
  · have dq6 : decide (G.names ≤ G.start) = true := decide_eq_true q6
    have HF := Lib.hid (okB_f (G := G) (fun h => by have := h.s1; omega))
    clear hp1 hl1 hl2 hG0 gb hG
    go_enter Tryd.func28, Tryd.ntmps28
    go_wp2
    go_ret
    exact ⟨ret_eq (by rw [HF.out]; rfl), hb0⟩
  have dq6 : decide (G.names ≤ G.start) = false := decide_eq_false q6
  by_cases q7 : 400 < (np : Int)
  · have dq7 : decide (400 < (np : Int)) = true := decide_eq_true q7
    have HF := Lib.hid (okB_f (G := G) (fun h => by have := h.p; omega))
    clear hp1 hl1 hl2 hG0 gb hG
    go_enter Tryd.func28, Tryd.ntmps28
    go_wp2
    go_ret
    exact ⟨ret_eq (by rw [HF.out]; rfl), hb0⟩
  have dq7 : decide (400 < (np : Int)) = false := decide_eq_false q7
  by_cases q8 : 50 < (ns : Int)
  · have dq8 : decide (50 < (ns : Int)) = true := decide_eq_true q8
    have HF := Lib.hid (okB_f (G := G) (fun h => by have := h.s; omega))
    clear hp1 hl1 hl2 hG0 gb hG
    by_cases q9 : (nl : Int) = 0
    · have d9 : ((nl : Int) != 0) = false := by rw [bne_eq_false_iff_eq]; exact q9
      clear q9
      go_enter Tryd.func28, Tryd.ntmps28
      go_wp2
      go_ret
      exact ⟨ret_eq (by rw [HF.out]; rfl), hb0⟩
    · have d9 : ((nl : Int) != 0) = true := by rw [bne_iff_ne]; exact q9
      cases d10 : ((nl : Int) != G.terms)
      all_goals
        go_enter Tryd.func28, Tryd.ntmps28
        go_wp2
        go_ret
        exact ⟨ret_eq (by rw [HF.out]; rfl), hb0⟩
  have dq8 : decide (50 < (ns : Int)) = false := decide_eq_false q8
  by_cases q9 : (nl : Int) = 0
  · have d9 : ((nl : Int) != 0) = false := by rw [bne_eq_false_iff_eq]; exact q9
    have HLT := Lib.hid (show G.levels.length = 0 ∨ (G.levels.length : Int) = G.terms from .inl (by omega))
    have q9' : nl ≤ 0 := by omega
    clear q9
    have HP := Lib.hid hp1; have HS := Lib.hid hl2; have HL := Lib.hid hl1; clear hp1 hl1 hl2
    have HG := Lib.hid hG0; clear hG0 hG
    have GB := Lib.hid gb; clear gb
    have HB0 := Lib.hid hb0; clear hb0
    have HM := Lib.hid hl4'; clear hl4'
    go_enter Tryd.func28, Tryd.ntmps28
    go_wp2_with fail
    generalize w.alloc (.cells #[.int .i64 G.terms, .int .i64 G.names, .int .i64 G.start, .slice Ap np cp, .slice Al nl cl, .slice As ns cs] 34) = W0 at *
    clear dq1 dq2 dq3 dq4 dq5 dq6 dq7 dq8
    go_loop [70] (fun i => ∃ k : Nat, k ≤ ns ∧ i = .int .i64 k ∧ Hid (∀ (j : Nat) (y : Int), j < k → G.sides[j]? = some y → 1 ≤ y ∧ y ≤ 3)) (fun i => ns - (intOf i).toNat)
    case atStart => exact ⟨0, Nat.zero_le _, rfl, fun j y h => absurd h (by omega)⟩
    case round =>
      as_aux_lemma =>
        obtain ⟨k, hk, rfl, HE⟩ := hrel
        by_cases hlt : k < ns
        · as_aux_lemma =>
            obtain ⟨b, off, rfl, hb, hc⟩ := HG.out.s.at_ (by rw [HS.out]; omega)
            have z := hc k (by rw [HS.out]; omega)
            have HQ := Lib.hid (getI HS.out hlt)
            clear hc
            generalize nth G.sides k = x at z HQ
            by_cases a1 : x < 1
            · have d1 : decide (x < 1) = true := decide_eq_true a1
              have HF := Lib.hid (okB_f (G := G) (fun h => by have := h.sd _ (mem_of_get HQ.out); omega))
              go_wp2
              go_ret
              exact ⟨ret_eq (by rw [HF.out]; rfl), HB0.out⟩
            have d1 : decide (x < 1) = false := decide_eq_false a1
            by_cases a2 : 3 < x
            · have d2 : decide (3 < x) = true := decide_eq_true a2
              have HF := Lib.hid (okB_f (G := G) (fun h => by have := h.sd _ (mem_of_get HQ.out); omega))
              go_wp2
              go_ret
              exact ⟨ret_eq (by rw [HF.out]; rfl), HB0.out⟩
            have d2 : decide (3 < x) = false := decide_eq_false a2
            go_wp2
            go_round
            case rel => exact ⟨k + 1, by omega, by go_num, all_step HE.out HQ.out (by omega)⟩
            case measure => simp [intOf]; omega
        · as_aux_lemma =>
            have HSD := Lib.hid (all_done HE.out (by have := HS.out; omega)); clear HE
            have gb4 := GB.out.c4
            go_wp2_with fail
            go_loop [84] (fun i => ∃ k : Nat, k ≤ nl ∧ i = .int .i64 k ∧ Hid (∀ (j : Nat) (y : Int), j < k → G.levels[j]? = some y → 0 ≤ y ∧ y ≤ G.sides.length)) (fun i => nl - (intOf i).toNat)
            case atStart => exact ⟨0, Nat.zero_le _, rfl, fun j y h => absurd h (by omega)⟩
            case round =>
              as_aux_lemma =>
                clear gb4 hlt
                obtain ⟨k, hk, rfl, HE⟩ := hrel
                by_cases hlt : k < nl
                · exact absurd hlt (by omega)
                · as_aux_lemma =>
                    have HLV := Lib.hid (all_done HE.out (by have := HL.out; omega)); clear HE
                    have gr3 := GB.out.c3
                    go_wp2_with fail
                    clear gr3 hlt
                    go_loopw [96] (fun i wr => ∃ k : Nat, k ≤ np ∧ i = .int .i64 k ∧ Below (w.heap.size + 1) W0 wr ∧ Hid (∀ (j : Nat) (y : Prd), j < k → G.prods[j]? = some y → PrOk G y)) (fun i _ => np - (intOf i).toNat)
                    case atStart => exact ⟨0, Nat.zero_le _, rfl, Below.refl _ _, fun j y h => absurd h (by omega)⟩
                    case round =>
                      as_aux_lemma =>
                        obtain ⟨k, hk, rfl, hbr, HE⟩ := hrel
                        have hfin : Below w.heap.size w wr := HB0.out.trans (hbr.mono (Nat.le_succ _))
                        have HGr := Lib.hid (HG.out.below (hbr.mono (by omega)))
                        have GRR := Lib.hid (GB.out.below hbr (Nat.lt_succ_self _))
                        by_cases hlt : k < np
                        · as_aux_lemma =>
                            obtain ⟨b, off, rfl, hb, hc⟩ := HGr.out.p.at_ (by omega)
                            obtain ⟨x, r, y, A', n', c', hq, z0, z1, z2, g1, g2, g3, g4⟩ := hc k hlt
                            have HQ := Lib.hid hq; have HR := Lib.hid g1; have HRd := Lib.hid g4; clear hc hq g1 g4
                            unfold maxLen at g3
                            have gr1 := GRR.out.c1
                            have hsz : w.heap.size < wr.heap.size := by have := hbr.size; omega
                            by_cases a1 : x < 0
                            · have da1 : decide (x < 0) = true := decide_eq_true a1
                              have HF := Lib.hid (okB_f (G := G) (fun h => by have h1 := (h.pr _ (mem_of_get HQ.out)).l0; have h2 := HR.out; have h3 := HS.out; simp only at h1; omega))
                              go_wp2
                              go_ret
                              exact ⟨ret_eq (by rw [HF.out]; rfl), hfin.alloc hfin.size _⟩
                            have da1 : decide (x < 0) = false := decide_eq_false a1
                            by_cases a2 : G.names ≤ x
                            · have da2 : decide (G.names ≤ x) = true := decide_eq_true a2
                              have HF := Lib.hid (okB_f (G := G) (fun h => by have h1 := (h.pr _ (mem_of_get HQ.out)).l1; have h2 := HR.out; have h3 := HS.out; simp only at h1; omega))
                              go_wp2
                              go_ret
                              exact ⟨ret_eq (by rw [HF.out]; rfl), hfin.alloc hfin.size _⟩
                            have da2 : decide (G.names ≤ x) = false := decide_eq_false a2
                            by_cases a5 : 20 < (n' : Int)
                            · have da5 : decide (20 < (n' : Int)) = true := decide_eq_true a5
                              have HF := Lib.hid (okB_f (G := G) (fun h => by have h1 := (h.pr _ (mem_of_get HQ.out)).r; have h2 := HR.out; have h3 := HS.out; simp only at h1; omega))
                              go_wp2
                              go_ret
                              exact ⟨ret_eq (by rw [HF.out]; rfl), hfin.alloc hfin.size _⟩
                            have da5 : decide (20 < (n' : Int)) = false := decide_eq_false a5
                            have hx : Below wr.heap.size wr (wr.alloc (.cells #[.int .i64 x, .slice A' n' c', .int .i64 y] 63)) := (Below.refl _ _).alloc (Nat.le_refl _) _
                            have zc5 := (GRR.out.below hx hsz).c5
                            by_cases av : 0 ≤ y ∧ y ≤ (ns : Int)
                            rotate_left
                            · have HC := Lib.hid (level_any y As ns cs w.heap.size _ HM.out zc5 false (decide_eq_false av).symm)
                              have HF := Lib.hid (okB_f (G := G) (fun h => by have h1 := (h.pr _ (mem_of_get HQ.out)).v0; have h2 := (h.pr _ (mem_of_get HQ.out)).v1; have h3 := HS.out; simp only at h1 h2; omega))
                              clear zc5 hx av
                              go_wp2_with (go_at_call 49; refine HC.out.mono ?_; rintro e w' ⟨rfl, rfl⟩)
                              go_ret
                              exact ⟨ret_eq (by rw [HF.out]; rfl), hfin.alloc hfin.size _⟩
                            have HC := Lib.hid (level_any y As ns cs w.heap.size _ HM.out zc5 true (decide_eq_true av).symm)
                            clear zc5
                            go_wp2_with (go_at_call 49; refine HC.out.mono ?_; rintro e w' ⟨rfl, rfl⟩)
                            obtain ⟨g6, hg6⟩ : ∃ g6, g6 = wr.heap.size := ⟨_, rfl⟩
                            have zz : (wr.alloc (.cells #[.int .i64 x, .slice A' n' c', .int .i64 y] 63)).cell? ⟨wr.heap.size, 1, none⟩ = some (.slice A' n' c') := by simp
                            rw [← hg6] at hx zz hsz ⊢
                            clear HC
                            generalize wr.alloc (.cells #[.int .i64 x, .slice A' n' c', .int .i64 y] 63) = W2 at *
                            have hw6 : wr.heap.size ≤ g6 := by omega
                            clear hg6
                            have hb2 : Below (w.heap.size + 1) W0 W2 := hbr.trans (hx.mono (by omega))
                            have HRd2 := Lib.hid (HRd.out.below (hx.mono (by omega))); clear hx HRd
                            clear zz gr1 z0 z1 z2 GRR HGr
                            go_loopw [126] (fun i wr => ∃ m : Nat, m ≤ n' ∧ i = .int .i64 m ∧ wr = W2 ∧ Hid (∀ (j : Nat) (y : Int), j < m → r[j]? = some y → -G.names ≤ y ∧ y < G.terms)) (fun i _ => n' - (intOf i).toNat)
                            case atStart => exact ⟨0, Nat.zero_le _, rfl, rfl, fun j y h => absurd h (by omega)⟩
                            case round =>
                              as_aux_lemma =>
                                obtain ⟨m, hm, rfl, rfl, HE2⟩ := hrel
                                have gm0 := (GB.out.below hb2 (Nat.lt_succ_self _)).c0
                                have gm1 := (GB.out.below hb2 (Nat.lt_succ_self _)).c1
                                by_cases hlt2 : m < n'
                                · as_aux_lemma =>
                                    obtain ⟨b', off', rfl, hb', hc'⟩ := HRd2.out.at_ (by rw [HR.out]; omega)
                                    have z := hc' m (by rw [HR.out]; omega)
                                    have HQ2 := Lib.hid (getI HR.out hlt2)
                                    clear hc'
                                    generalize nth r m = v at z HQ2
                                    by_cases a1 : G.terms ≤ v
                                    · have d1 : decide (G.terms ≤ v) = true := decide_eq_true a1
                                      have HF := Lib.hid (okB_f (G := G) (fun h => by have := (h.pr _ (mem_of_get HQ.out)).s _ (mem_of_get HQ2.out); omega))
                                      go_wp2
                                      go_ret
                                      exact ⟨ret_eq (by rw [HF.out]; rfl), HB0.out.trans (hb2.mono (Nat.le_succ _))⟩
                                    have d1 : decide (G.terms ≤ v) = false := decide_eq_false a1
                                    by_cases a2 : v < -G.names
                                    · have d2 : decide (v < -G.names) = true := decide_eq_true a2
                                      have HF := Lib.hid (okB_f (G := G) (fun h => by have := (h.pr _ (mem_of_get HQ.out)).s _ (mem_of_get HQ2.out); omega))
                                      go_wp2
                                      go_ret
                                      exact ⟨ret_eq (by rw [HF.out]; rfl), HB0.out.trans (hb2.mono (Nat.le_succ _))⟩
                                    have d2 : decide (v < -G.names) = false := decide_eq_false a2
                                    go_wp2
                                    go_roundw
                                    case rel => exact ⟨m + 1, by omega, by go_num, trivial, all_step HE2.out HQ2.out (by omega)⟩
                                    case measure => simp [intOf]; omega
                                · as_aux_lemma =>
                                    have HA := Lib.hid (all_done HE2.out (by have := HR.out; omega)); clear HE2
                                    go_wp2
                                    go_roundw
                                    case rel => exact ⟨k + 1, by omega, by go_num, hb2, all_step HE.out HQ.out ⟨by simp only; omega, by simp only; omega, by simp only; omega, by have := HS.out; simp only; omega, by have := HR.out; simp only; omega, HA.out⟩⟩
                                    case measure => simp [intOf]; omega
                        · as_aux_lemma =>
                            have HF := Lib.hid (okB_t (G := G) ⟨by omega, by omega, by omega, by omega, by omega, by omega, by have := HP.out; omega, HLT.out, by have := HS.out; omega, HSD.out, HLV.out, all_done HE.out (by have := HP.out; omega)⟩)
                            go_wp2
                            go_ret
                            exact ⟨ret_eq (by rw [HF.out]; rfl), hfin⟩
  · have d9 : ((nl : Int) != 0) = true := by rw [bne_iff_ne]; exact q9
    by_cases q10 : (nl : Int) = G.terms
    · have d10 : ((nl : Int) != G.terms) = false := by rw [bne_eq_false_iff_eq]; exact q10
      have HLT := Lib.hid (show G.levels.length = 0 ∨ (G.levels.length : Int) = G.terms from .inr (by omega)); clear q10
      have HP := Lib.hid hp1; have HS := Lib.hid hl2; have HL := Lib.hid hl1; clear hp1 hl1 hl2
      have HG := Lib.hid hG0; clear hG0 hG
      have GB := Lib.hid gb; clear gb
      have HB0 := Lib.hid hb0; clear hb0
      have HM := Lib.hid hl4'; clear hl4'
      go_enter Tryd.func28, Tryd.ntmps28
      go_wp2_with fail
      generalize w.alloc (.cells #[.int .i64 G.terms, .int .i64 G.names, .int .i64 G.start, .slice Ap np cp, .slice Al nl cl, .slice As ns cs] 34) = W0 at *
      clear dq1 dq2 dq3 dq4 dq5 dq6 dq7 dq8
      go_loop [70] (fun i => ∃ k : Nat, k ≤ ns ∧ i = .int .i64 k ∧ Hid (∀ (j : Nat) (y : Int), j < k → G.sides[j]? = some y → 1 ≤ y ∧ y ≤ 3)) (fun i => ns - (intOf i).toNat)
      case atStart => exact ⟨0, Nat.zero_le _, rfl, fun j y h => absurd h (by omega)⟩
      case round =>
        as_aux_lemma =>
          obtain ⟨k, hk, rfl, HE⟩ := hrel
          by_cases hlt : k < ns
          · as_aux_lemma =>
              obtain ⟨b, off, rfl, hb, hc⟩ := HG.out.s.at_ (by rw [HS.out]; omega)
              have z := hc k (by rw [HS.out]; omega)
              have HQ := Lib.hid (getI HS.out hlt)
              clear hc
              generalize nth G.sides k = x at z HQ
              by_cases a1 : x < 1
              · have d1 : decide (x < 1) = true := decide_eq_true a1
                have HF := Lib.hid (okB_f (G := G) (fun h => by have := h.sd _ (mem_of_get HQ.out); omega))
                go_wp2
                go_ret
                exact ⟨ret_eq (by rw [HF.out]; rfl), HB0.out⟩
              have d1 : decide (x < 1) = false := decide_eq_false a1
              by_cases a2 : 3 < x
              · have d2 : decide (3 < x) = true := decide_eq_true a2
                have HF := Lib.hid (okB_f (G := G) (fun h => by have := h.sd _ (mem_of_get HQ.out); omega))
                go_wp2
                go_ret
                exact ⟨ret_eq (by rw [HF.out]; rfl), HB0.out⟩
              have d2 : decide (3 < x) = false := decide_eq_false a2
              go_wp2
              go_round
              case rel => exact ⟨k + 1, by omega, by go_num, all_step HE.out HQ.out (by omega)⟩
              case measure => simp [intOf]; omega
          · as_aux_lemma =>
              have HSD := Lib.hid (all_done HE.out (by have := HS.out; omega)); clear HE
              have gb4 := GB.out.c4
              go_wp2_with fail
              go_loop [84] (fun i => ∃ k : Nat, k ≤ nl ∧ i = .int .i64 k ∧ Hid (∀ (j : Nat) (y : Int), j < k → G.levels[j]? = some y → 0 ≤ y ∧ y ≤ G.sides.length)) (fun i => nl - (intOf i).toNat)
              case atStart => exact ⟨0, Nat.zero_le _, rfl, fun j y h => absurd h (by omega)⟩
              case round =>
                as_aux_lemma =>
                  clear gb4 hlt
                  obtain ⟨k, hk, rfl, HE⟩ := hrel
                  by_cases hlt : k < nl
                  · as_aux_lemma =>
                      obtain ⟨b, off, rfl, hb, hc⟩ := HG.out.l.at_ (by rw [HL.out]; omega)
                      have z := hc k (by rw [HL.out]; omega)
                      have HQ := Lib.hid (getI HL.out hlt)
                      clear hc
                      generalize nth G.levels k = x at z HQ
                      by_cases a : 0 ≤ x ∧ x ≤ (ns : Int)
                      · have HC := Lib.hid (level_any x As ns cs w.heap.size W0 HM.out GB.out.c5 true (decide_eq_true a).symm)
                        go_wp2_with (go_at_call 49; refine HC.out.mono ?_; rintro e w' ⟨rfl, rfl⟩)
                        go_round
                        case rel => exact ⟨k + 1, by omega, by go_num, all_step HE.out HQ.out (by have := HS.out; omega)⟩
                        case measure => simp [intOf]; omega
                      · have HC := Lib.hid (level_any x As ns cs w.heap.size W0 HM.out GB.out.c5 false (decide_eq_false a).symm)
                        have HF := Lib.hid (okB_f (G := G) (fun h => by have := h.lv _ (mem_of_get HQ.out); have := HS.out; omega))
                        clear a
                        go_wp2_with (go_at_call 49; refine HC.out.mono ?_; rintro e w' ⟨rfl, rfl⟩)
                        go_ret
                        exact ⟨ret_eq (by rw [HF.out]; rfl), HB0.out⟩
                  · as_aux_lemma =>
                      have HLV := Lib.hid (all_done HE.out (by have := HL.out; omega)); clear HE
                      have gr3 := GB.out.c3
                      go_wp2_with fail
                      clear gr3 hlt
                      go_loopw [96] (fun i wr => ∃ k : Nat, k ≤ np ∧ i = .int .i64 k ∧ Below (w.heap.size + 1) W0 wr ∧ Hid (∀ (j : Nat) (y : Prd), j < k → G.prods[j]? = some y → PrOk G y)) (fun i _ => np - (intOf i).toNat)
                      case atStart => exact ⟨0, Nat.zero_le _, rfl, Below.refl _ _, fun j y h => absurd h (by omega)⟩
                      case round =>
                        as_aux_lemma =>
                          obtain ⟨k, hk, rfl, hbr, HE⟩ := hrel
                          have hfin : Below w.heap.size w wr := HB0.out.trans (hbr.mono (Nat.le_succ _))
                          have HGr := Lib.hid (HG.out.below (hbr.mono (by omega)))
                          have GRR := Lib.hid (GB.out.below hbr (Nat.lt_succ_self _))
                          by_cases hlt : k < np
                          · as_aux_lemma =>
                              obtain ⟨b, off, rfl, hb, hc⟩ := HGr.out.p.at_ (by omega)
                              obtain ⟨x, r, y, A', n', c', hq, z0, z1, z2, g1, g2, g3, g4⟩ := hc k hlt
                              have HQ := Lib.hid hq; have HR := Lib.hid g1; have HRd := Lib.hid g4; clear hc hq g1 g4
                              unfold maxLen at g3
                              have gr1 := GRR.out.c1
                              have hsz : w.heap.size < wr.heap.size := by have := hbr.size; omega
                              by_cases a1 : x < 0
                              · have da1 : decide (x < 0) = true := decide_eq_true a1
                                have HF := Lib.hid (okB_f (G := G) (fun h => by have h1 := (h.pr _ (mem_of_get HQ.out)).l0; have h2 := HR.out; have h3 := HS.out; simp only at h1; omega))
                                go_wp2
                                go_ret
                                exact ⟨ret_eq (by rw [HF.out]; rfl), hfin.alloc hfin.size _⟩
                              have da1 : decide (x < 0) = false := decide_eq_false a1
                              by_cases a2 : G.names ≤ x
                              · have da2 : decide (G.names ≤ x) = true := decide_eq_true a2
                                have HF := Lib.hid (okB_f (G := G) (fun h => by have h1 := (h.pr _ (mem_of_get HQ.out)).l1; have h2 := HR.out; have h3 := HS.out; simp only at h1; omega))
                                go_wp2
                                go_ret
                                exact ⟨ret_eq (by rw [HF.out]; rfl), hfin.alloc hfin.size _⟩
                              have da2 : decide (G.names ≤ x) = false := decide_eq_false a2
                              by_cases a5 : 20 < (n' : Int)
                              · have da5 : decide (20 < (n' : Int)) = true := decide_eq_true a5
                                have HF := Lib.hid (okB_f (G := G) (fun h => by have h1 := (h.pr _ (mem_of_get HQ.out)).r; have h2 := HR.out; have h3 := HS.out; simp only at h1; omega))
                                go_wp2
                                go_ret
                                exact ⟨ret_eq (by rw [HF.out]; rfl), hfin.alloc hfin.size _⟩
                              have da5 : decide (20 < (n' : Int)) = false := decide_eq_false a5
                              have hx : Below wr.heap.size wr (wr.alloc (.cells #[.int .i64 x, .slice A' n' c', .int .i64 y] 63)) := (Below.refl _ _).alloc (Nat.le_refl _) _
                              have zc5 := (GRR.out.below hx hsz).c5
                              by_cases av : 0 ≤ y ∧ y ≤ (ns : Int)
                              rotate_left
                              · have HC := Lib.hid (level_any y As ns cs w.heap.size _ HM.out zc5 false (decide_eq_false av).symm)
                                have HF := Lib.hid (okB_f (G := G) (fun h => by have h1 := (h.pr _ (mem_of_get HQ.out)).v0; have h2 := (h.pr _ (mem_of_get HQ.out)).v1; have h3 := HS.out; simp only at h1 h2; omega))
                                clear zc5 hx av
                                go_wp2_with (go_at_call 49; refine HC.out.mono ?_; rintro e w' ⟨rfl, rfl⟩)
                                go_ret
                                exact ⟨ret_eq (by rw [HF.out]; rfl), hfin.alloc hfin.size _⟩
                              have HC := Lib.hid (level_any y As ns cs w.heap.size _ HM.out zc5 true (decide_eq_true av).symm)
                              clear zc5
                              go_wp2_with (go_at_call 49; refine HC.out.mono ?_; rintro e w' ⟨rfl, rfl⟩)
                              obtain ⟨g6, hg6⟩ : ∃ g6, g6 = wr.heap.size := ⟨_, rfl⟩
                              have zz : (wr.alloc (.cells #[.int .i64 x, .slice A' n' c', .int .i64 y] 63)).cell? ⟨wr.heap.size, 1, none⟩ = some (.slice A' n' c') := by simp
                              rw [← hg6] at hx zz hsz ⊢
                              clear HC
                              generalize wr.alloc (.cells #[.int .i64 x, .slice A' n' c', .int .i64 y] 63) = W2 at *
                              have hw6 : wr.heap.size ≤ g6 := by omega
                              clear hg6
                              have hb2 : Below (w.heap.size + 1) W0 W2 := hbr.trans (hx.mono (by omega))
                              have HRd2 := Lib.hid (HRd.out.below (hx.mono (by omega))); clear hx HRd
                              clear zz gr1 z0 z1 z2 GRR HGr
                              go_loopw [126] (fun i wr => ∃ m : Nat, m ≤ n' ∧ i = .int .i64 m ∧ wr = W2 ∧ Hid (∀ (j : Nat) (y : Int), j < m → r[j]? = some y → -G.names ≤ y ∧ y < G.terms)) (fun i _ => n' - (intOf i).toNat)
                              case atStart => exact ⟨0, Nat.zero_le _, rfl, rfl, fun j y h => absurd h (by omega)⟩
                              case round =>
                                as_aux_lemma =>
                                  obtain ⟨m, hm, rfl, rfl, HE2⟩ := hrel
                                  have gm0 := (GB.out.below hb2 (Nat.lt_succ_self _)).c0
                                  have gm1 := (GB.out.below hb2 (Nat.lt_succ_self _)).c1
                                  by_cases hlt2 : m < n'
                                  · as_aux_lemma =>
                                      obtain ⟨b', off', rfl, hb', hc'⟩ := HRd2.out.at_ (by rw [HR.out]; omega)
                                      have z := hc' m (by rw [HR.out]; omega)
                                      have HQ2 := Lib.hid (getI HR.out hlt2)
                                      clear hc'
                                      generalize nth r m = v at z HQ2
                                      by_cases a1 : G.terms ≤ v
                                      · have d1 : decide (G.terms ≤ v) = true := decide_eq_true a1
                                        have HF := Lib.hid (okB_f (G := G) (fun h => by have := (h.pr _ (mem_of_get HQ.out)).s _ (mem_of_get HQ2.out); omega))
                                        go_wp2
                                        go_ret
                                        exact ⟨ret_eq (by rw [HF.out]; rfl), HB0.out.trans (hb2.mono (Nat.le_succ _))⟩
                                      have d1 : decide (G.terms ≤ v) = false := decide_eq_false a1
                                      by_cases a2 : v < -G.names
                                      · have d2 : decide (v < -G.names) = true := decide_eq_true a2
                                        have HF := Lib.hid (okB_f (G := G) (fun h => by have := (h.pr _ (mem_of_get HQ.out)).s _ (mem_of_get HQ2.out); omega))
                                        go_wp2
                                        go_ret
                                        exact ⟨ret_eq (by rw [HF.out]; rfl), HB0.out.trans (hb2.mono (Nat.le_succ _))⟩
                                      have d2 : decide (v < -G.names) = false := decide_eq_false a2
                                      go_wp2
                                      go_roundw
                                      case rel => exact ⟨m + 1, by omega, by go_num, trivial, all_step HE2.out HQ2.out (by omega)⟩
                                      case measure => simp [intOf]; omega
                                  · as_aux_lemma =>
                                      have HA := Lib.hid (all_done HE2.out (by have := HR.out; omega)); clear HE2
                                      go_wp2
                                      go_roundw
                                      case rel => exact ⟨k + 1, by omega, by go_num, hb2, all_step HE.out HQ.out ⟨by simp only; omega, by simp only; omega, by simp only; omega, by have := HS.out; simp only; omega, by have := HR.out; simp only; omega, HA.out⟩⟩
                                      case measure => simp [intOf]; omega
                          · as_aux_lemma =>
                              have HF := Lib.hid (okB_t (G := G) ⟨by omega, by omega, by omega, by omega, by omega, by omega, by have := HP.out; omega, HLT.out, by have := HS.out; omega, HSD.out, HLV.out, all_done HE.out (by have := HP.out; omega)⟩)
                              go_wp2
                              go_ret
                              exact ⟨ret_eq (by rw [HF.out]; rfl), hfin⟩
    · have d10 : ((nl : Int) != G.terms) = true := by rw [bne_iff_ne]; exact q10
      have HF := Lib.hid (okB_f (G := G) (fun h => by have := h.l; omega))
      clear hp1 hl1 hl2 hG0 gb hG q10
      go_enter Tryd.func28, Tryd.ntmps28
      go_wp2
      go_ret
      exact ⟨ret_eq (by rw [HF.out]; rfl), hb0⟩
end Go.Proofs.YtinejiodnnjpgaaDoor
namespace Go.Proofs.YtinejiodnnjpgaaDoor
open Go.RowKit BigFrame
set_option linter.unusedVariables false
set_option linter.unusedSimpArgs false
set_option maxRecDepth 100000

theorem get_getD {α : Type} {l : List α} {k : Nat} (h : k < l.length) {d : α} : l[k] = l.getD k d := by rw [List.getD_eq_getElem?_getD, List.getElem?_eq_getElem h]; rfl
/-- The world behind the boxing of a grammar and a table. -/
theorem gtbox (w : World) (G : Gr) (Ap Al As : Option Addr) (np cp nl cl ns cs : Nat) (u1 u2 u3 : Value) :
    Below w.heap.size w ((w.alloc (.cells #[.int .i64 G.terms, .int .i64 G.names, .int .i64 G.start, .slice Ap np cp, .slice Al nl cl, .slice As ns cs] 34)).alloc (.cells #[u1, u2, u3] 47)) ∧
    ((w.alloc (.cells #[.int .i64 G.terms, .int .i64 G.names, .int .i64 G.start, .slice Ap np cp, .slice Al nl cl, .slice As ns cs] 34)).alloc (.cells #[u1, u2, u3] 47)).heap.size = w.heap.size + 2 ∧
    GrBox ((w.alloc (.cells #[.int .i64 G.terms, .int .i64 G.names, .int .i64 G.start, .slice Ap np cp, .slice Al nl cl, .slice As ns cs] 34)).alloc (.cells #[u1, u2, u3] 47)) w.heap.size G Ap Al As np cp nl cl ns cs ∧
    Blk ((w.alloc (.cells #[.int .i64 G.terms, .int .i64 G.names, .int .i64 G.start, .slice Ap np cp, .slice Al nl cl, .slice As ns cs] 34)).alloc (.cells #[u1, u2, u3] 47)) (w.heap.size + 1) 47 [u1, u2, u3] := by
  obtain ⟨h1, h2, h3⟩ := gbox w G Ap Al As np cp nl cl ns cs
  have h4 : Below (w.heap.size + 1) (w.alloc (.cells #[.int .i64 G.terms, .int .i64 G.names, .int .i64 G.start, .slice Ap np cp, .slice Al nl cl, .slice As ns cs] 34)) ((w.alloc (.cells #[.int .i64 G.terms, .int .i64 G.names, .int .i64 G.start, .slice Ap np cp, .slice Al nl cl, .slice As ns cs] 34)).alloc (.cells #[u1, u2, u3] 47)) := (Below.refl _ _).alloc (by rw [h2]; exact Nat.le_refl _) _
  refine ⟨h1.trans (h4.mono (Nat.le_succ _)), by simp, h3.below h4 (Nat.lt_succ_self _), ?_⟩
  have := Blk.new (w.alloc (.cells #[.int .i64 G.terms, .int .i64 G.names, .int .i64 G.start, .slice Ap np cp, .slice Al nl cl, .slice As ns cs] 34)) 47 [u1, u2, u3]
  rw [h2] at this
  exact this

set_option maxHeartbeats 4000000 in
theorem pfits_any (G : Gr) (Ap Al As : Option Addr) (np cp nl cl ns cs : Nat) (T : Tb) (Aa : Option Addr) (na ca : Nat) (Ag : Option Addr) (ng cg : Nat) (vc : Value) (w : World) (B : Nat) (hB : B ≤ w.heap.size) (hG : GrIn w B G Ap Al As np cp nl cl ns cs) (hT : TbIn w B T Aa na ca Ag ng cg) :
    Calls Tryd.prog 17 #[.agg #[.int .i64 G.terms, .int .i64 G.names, .int .i64 G.start, .slice Ap np cp, .slice Al nl cl, .slice As ns cs], .agg #[.slice Aa na ca, .slice Ag ng cg, vc]] w fun e w' => e = .returned (.bool (fitB G T)) ∧ Below w.heap.size w w' := by
  obtain ⟨hb0, hs0, gb, hb⟩ := gtbox w G Ap Al As np cp nl cl ns cs (.slice Aa na ca) (.slice Ag ng cg) vc
  obtain ⟨hpl, hpm⟩ := hG.p.len
  have HPL := Lib.hid hpl
  unfold maxLen at hpm
  obtain ⟨hla, hca, hma⟩ := shL_len hT.a
  obtain ⟨hlg, hcg, hmg⟩ := shL_len hT.g
  have z0 := hb.cell (i := 0) rfl
  have z1 := hb.cell (i := 1) rfl
  have hC := ok_any G Ap Al As np cp nl cl ns cs _ B (by rw [hs0]; omega) (hG.below (hb0.mono hB))
  rw [hs0] at hC
  have HC := Lib.hid hC; have HB0 := Lib.hid hb0; have HG := Lib.hid (hG.below (hb0.mono hB)); have HT := Lib.hid (hT.below (hb0.mono hB)); have HS0 := Lib.hid hs0; have HGB := Lib.hid gb; have HTB := Lib.hid hb; have HLA := Lib.hid hla; have HLG := Lib.hid hlg
  unfold maxLen at hma hmg
  clear hC hb0 hG hT gb hb hla hlg hs0 hpl
  go_enter Tryd.func17, Tryd.ntmps17
  go_wp2_with fail
  generalize (w.alloc (.cells #[.int .i64 G.terms, .int .i64 G.names, .int .i64 G.start, .slice Ap np cp, .slice Al nl cl, .slice As ns cs] 34)).alloc (.cells #[.slice Aa na ca, .slice Ag ng cg, vc] 47) = W0 at *
  refine HC.out.mono ?_
  rintro e w1 ⟨rfl, hb1⟩
  have z2 := (hb1.cell (p := ⟨w.heap.size + 1, 1, none⟩) (by show w.heap.size + 1 < _; omega)).trans z1
  have HB1 := Lib.hid hb1
  have hfin : Below w.heap.size w w1 := HB0.out.trans (hb1.mono (by omega))
  have HFIN := Lib.hid hfin
  clear hb1 z0 z1 hfin HC
  by_cases hk : GOk G
  rotate_left
  · as_aux_lemma =>
      rw [okB_f hk]
      have HN := Lib.hid (fitB_f (G := G) (T := T) (fun h => hk h.ok))
      clear hk
      go_wp2
      go_ret
      exact ⟨ret_eq (by rw [HN.out]; rfl), HFIN.out⟩
  rw [okB_t hk]
  by_cases q1 : na < 1
  · as_aux_lemma =>
      have HN := Lib.hid (fitB_f (G := G) (T := T) (fun h => by have := h.n0; rw [HLA.out] at this; omega))
      clear hk
      go_wp2
      go_ret
      exact ⟨ret_eq (by rw [HN.out]; rfl), HFIN.out⟩
  by_cases q2 : 2000 < na
  · as_aux_lemma =>
      have HN := Lib.hid (fitB_f (G := G) (T := T) (fun h => by have := h.n1; rw [HLA.out] at this; omega))
      clear hk
      go_wp2
      go_ret
      exact ⟨ret_eq (by rw [HN.out]; rfl), HFIN.out⟩
  by_cases q3 : ng = na
  rotate_left
  · as_aux_lemma =>
      have HN := Lib.hid (fitB_f (G := G) (T := T) (fun h => q3 (by have := h.gl; rw [HLA.out, HLG.out] at this; exact this)))
      have d1 : ((ng : Int) != (na : Int)) = true := by simp; omega
      clear hk q3
      go_wp2
      go_ret
      exact ⟨ret_eq (by rw [HN.out]; rfl), HFIN.out⟩
  subst q3
  have hk1 := hk.t0; have hk2 := hk.t1; have hk3 := hk.n0; have hk4 := hk.n1
  have HK := Lib.hid hk
  clear hk
  go_wp2_with fail
  go_loopw [33] (fun i wr => ∃ (j : Nat), j ≤ ng ∧ i = .int .i64 (j : Int) ∧ Hid (∀ k, k < j → RowFits G T k) ∧ Hid (Below (w.heap.size + 2) W0 wr)) (fun i _ => ng - (intOf i).toNat)
  case atStart => exact ⟨0, Nat.zero_le _, rfl, fun k h => absurd h (Nat.not_lt_zero _), HB1⟩
  case round =>
    as_aux_lemma =>
      obtain ⟨j, hj, rfl, HR, HB⟩ := hrel
      have hlow : ∀ b, b < w.heap.size + 2 → ∀ o, wr.cell? ⟨b, o, none⟩ = W0.cell? ⟨b, o, none⟩ := fun b hb o => HB.out.cell (p := ⟨b, o, none⟩) hb
      have z0 := (hlow (w.heap.size + 1) (by omega) 0).trans (HTB.out.cell (i := 0) rfl)
      have z1 := (hlow (w.heap.size + 1) (by omega) 1).trans (HTB.out.cell (i := 1) rfl)
      have c0 := (hlow w.heap.size (by omega) 0).trans HGB.out.c0
      have c1 := (hlow w.heap.size (by omega) 1).trans HGB.out.c1
      have c3 := (hlow w.heap.size (by omega) 3).trans HGB.out.c3
      by_cases hlt : j < ng
      · as_aux_lemma =>
          have ta := HT.out.a
          have tg := HT.out.g
          obtain ⟨ab, ao, rfl, hab, hac⟩ := ta.at_ (by omega)
          obtain ⟨gb, go, rfl, hgb, hgc⟩ := tg.at_ (by omega)
          obtain ⟨A1, n1, cc1, x1, x2, x3, x4, x5⟩ := hac j hlt
          obtain ⟨A2, n2, cc2, y1, y2, y3, y4, y5⟩ := hgc j hlt
          have x1' := (hlow ab (by omega) (ao + j)).trans x1
          have y1' := (hlow gb (by omega) (go + j)).trans y1
          have HX2 := Lib.hid x2; have HX5 := Lib.hid x5; have HY2 := Lib.hid y2; have HY5 := Lib.hid y5
          unfold maxLen at x4 y4
          have HY1 := Lib.hid y1
          clear ta tg hac hgc x1 y1 x2 x5 y2 y5 hlow HT
          by_cases e1 : (n1 : Int) = G.terms + 1
          rotate_left
          · as_aux_lemma =>
              have HN := Lib.hid (fitB_f (G := G) (T := T) (fun h => e1 (by have := (h.row j (by rw [HLA.out]; exact hlt)).al; rw [HX2.out] at this; exact this)))
              have d1 : ((n1 : Int) != G.terms + 1) = true := by simpa using e1
              have HF : Hid (Below w.heap.size w wr) := Lib.hid (HB0.out.trans (HB.out.mono (by omega)))
              clear e1
              go_wp2_with fail
              go_quiet (fail)
              go_wp2_with fail
              go_ret
              exact ⟨ret_eq (by rw [HN.out]; rfl), HF.out.trans (bel_dn _ _ _)⟩
          have d1 : ((n1 : Int) != G.terms + 1) = false := by simpa using e1
          by_cases e2 : (n2 : Int) = G.names
          rotate_left
          · as_aux_lemma =>
              have HN := Lib.hid (fitB_f (G := G) (T := T) (fun h => e2 (by have := (h.row j (by rw [HLA.out]; exact hlt)).gl; rw [HY2.out] at this; exact this)))
              have d2 : ((n2 : Int) != G.names) = true := by simpa using e2
              have HF : Hid (Below w.heap.size w wr) := Lib.hid (HB0.out.trans (HB.out.mono (by omega)))
              clear e1 e2
              go_wp2_with fail
              go_quiet (fail)
              go_wp2_with fail
              go_ret
              exact ⟨ret_eq (by rw [HN.out]; rfl), HF.out.trans (bel_dn _ _ _)⟩
          have d2 : ((n2 : Int) != G.names) = false := by simpa using e2
          have HE1 := Lib.hid e1; have HE2 := Lib.hid e2
          clear e1 e2
          go_wp2_with fail
          go_quiet (fail)
          rename_i nq _ _
          obtain ⟨w2, hw2⟩ : ∃ w2, w2 = wr.drewN nq := ⟨_, rfl⟩
          have HB2 : Hid (Below (w.heap.size + 2) W0 w2) := Lib.hid (by rw [hw2]; exact HB.out.trans (bel_dn _ _ _))
          have zz0 : w2.cell? ⟨w.heap.size + 1, 0, none⟩ = some (.slice (some ⟨ab, ao, none⟩) ng ca) := by rw [hw2]; exact z0
          have zz1 : w2.cell? ⟨ab, ao + j, none⟩ = some (.slice A1 n1 cc1) := by rw [hw2]; exact x1'
          rw [← hw2]
          clear hw2 z0 z1 c0 c1 c3 d1 d2 x1' y1'
          go_wp2_with fail
          go_loopw [63] (fun i wr => ∃ (k : Nat), k ≤ n1 ∧ i = .int .i64 (k : Int) ∧ Hid (∀ k', k' < k → fitA ((T.acts.getD j []).getD k' (0, 0)) (decide ((k' : Int) = G.terms)) T.acts.length G.prods.length) ∧ Hid (Below (w.heap.size + 2) W0 wr)) (fun i _ => n1 - (intOf i).toNat)
          case atStart => exact ⟨0, Nat.zero_le _, rfl, fun k h => absurd h (Nat.not_lt_zero _), HB2⟩
          case round =>
            as_aux_lemma =>
              obtain ⟨k, hkk, rfl, HFt, HB3⟩ := hrel
              have hlow : ∀ b, b < w.heap.size + 2 → ∀ o, wr.cell? ⟨b, o, none⟩ = W0.cell? ⟨b, o, none⟩ := fun b hb o => HB3.out.cell (p := ⟨b, o, none⟩) hb
              have z0 := (hlow (w.heap.size + 1) (by omega) 0).trans (HTB.out.cell (i := 0) rfl)
              have z1 := (hlow (w.heap.size + 1) (by omega) 1).trans (HTB.out.cell (i := 1) rfl)
              have c0 := (hlow w.heap.size (by omega) 0).trans HGB.out.c0
              have c3 := (hlow w.heap.size (by omega) 3).trans HGB.out.c3
              by_cases hlk : k < n1
              · as_aux_lemma =>
                  have rx := HX5.out
                  obtain ⟨rb, ro, rfl, hrb, hrc⟩ := rx.at_ (by omega)
                  obtain ⟨v1, v2⟩ := hrc k hlk
                  have v1' := (hlow rb (by omega) (ro + k * 2)).trans v1
                  have v2' := (hlow rb (by omega) (ro + k * 2 + 1)).trans v2
                  have hwz : w.heap.size + 2 ≤ wr.heap.size := by have := HB3.out.size; have := HS0.out; omega
                  clear rx hrc v1 v2 hlow
                  obtain ⟨kd, hkd⟩ : ∃ x, x = ((T.acts.getD j []).getD k (0, 0)).1 := ⟨_, rfl⟩
                  obtain ⟨to, hto⟩ : ∃ x, x = ((T.acts.getD j []).getD k (0, 0)).2 := ⟨_, rfl⟩
                  rw [← hkd] at v1'
                  rw [← hto] at v2'
                  have HKD := Lib.hid (show (T.acts.getD j []).getD k (0, 0) = (kd, to) by rw [hkd, hto])
                  clear hkd hto
                  have hx1 : w.heap.size < wr.heap.size := by omega
                  have HBA : Hid (Below (w.heap.size + 2) W0 (wr.alloc (.cells #[.int .i64 kd, .int .i64 to] 82))) := Lib.hid (HB3.out.alloc hwz _)
                  have HWZ := Lib.hid (show w.heap.size + 2 ≤ (wr.alloc (.cells #[.int .i64 kd, .int .i64 to] 82)).heap.size by simp; omega)
                  clear hwz
                  go_wp2_with fail
                  refine (fits_any kd to _ _ _ _).mono ?_
                  rintro e w5 ⟨rfl, hb5⟩
                  have HB5 : Hid (Below (w.heap.size + 2) W0 w5) := Lib.hid (HBA.out.trans (hb5.mono HWZ.out))
                  clear hb5
                  by_cases hfit : fitA (kd, to) (decide ((k : Int) = G.terms)) (ng : Int) (np : Int)
                  · as_aux_lemma =>
                      have hd : decide (fitA (kd, to) ((k : Int) == G.terms) (ng : Int) (np : Int)) = true := decide_eq_true hfit
                      have HF2 : Hid (∀ k', k' < k + 1 → fitA ((T.acts.getD j []).getD k' (0, 0)) (decide ((k' : Int) = G.terms)) T.acts.length G.prods.length) := Lib.hid (fun k' hk' => by
                        by_cases q : k' < k
                        · exact HFt.out k' q
                        · obtain rfl : k' = k := by omega
                          rw [HKD.out, HLA.out, HPL.out]
                          exact hfit)
                      clear hfit
                      rw [hd]
                      go_wp2
                      go_roundw
                      case rel => exact ⟨k + 1, by omega, by go_num, HF2, HB5⟩
                      case measure => simp [intOf]; omega
                  · as_aux_lemma =>
                      have hd : decide (fitA (kd, to) ((k : Int) == G.terms) (ng : Int) (np : Int)) = false := decide_eq_false hfit
                      have HN := Lib.hid (fitB_f (G := G) (T := T) (fun h => hfit (by
                        have h1 := h.row j (by rw [HLA.out]; exact hlt)
                        have h2 := h1.a k _ (List.getElem?_eq_getElem (by rw [HX2.out]; exact hlk))
                        have h3 : (T.acts.getD j [])[k]'(by rw [HX2.out]; exact hlk) = (kd, to) := (get_getD (by rw [HX2.out]; exact hlk)).trans HKD.out
                        rw [h3, HLA.out, HPL.out] at h2
                        exact h2)))
                      have HF : Hid (Below w.heap.size w w5) := Lib.hid (HB0.out.trans (HB5.out.mono (by omega)))
                      clear hfit
                      rw [hd]
                      go_wp2
                      go_ret
                      exact ⟨ret_eq (by rw [HN.out]; rfl), HF.out⟩
              · as_aux_lemma =>
                  have hke : k = n1 := by omega
                  subst hke
                  have ry := HY5.out
                  have y1' := (hlow gb (by omega) (go + j)).trans HY1.out
                  clear hlow
                  go_wp2_with fail
                  obtain ⟨wo, rfl⟩ : ∃ wo : World, wo = wr := ⟨_, rfl⟩
                  go_loopw [86] (fun i wr => ∃ (m : Nat), m ≤ n2 ∧ i = .int .i64 (m : Int) ∧ Hid (∀ k', k' < m → -1 ≤ nth (T.gotos.getD j []) k' ∧ nth (T.gotos.getD j []) k' < T.acts.length) ∧ Hid (Below (w.heap.size + 2) W0 wr)) (fun i _ => n2 - (intOf i).toNat)
                  case atStart => exact ⟨0, Nat.zero_le _, rfl, fun k h => absurd h (Nat.not_lt_zero _), HB3⟩
                  case round =>
                    as_aux_lemma =>
                      obtain ⟨m, hm, rfl, HGt, HB4⟩ := hrel
                      by_cases hlm : m < n2
                      · as_aux_lemma =>
                          obtain ⟨rb, ro, rfl, hrb, hrc⟩ := ry.at_ (by rw [HY2.out]; omega)
                          have v1 := hrc m (by rw [HY2.out]; exact hlm)
                          have v1' := (HB4.out.cell (p := ⟨rb, ro + m, none⟩) (by show rb < _; omega)).trans v1
                          clear hrc v1
                          by_cases t1 : nth (T.gotos.getD j []) m < -1
                          · as_aux_lemma =>
                              have HN := Lib.hid (fitB_f (G := G) (T := T) (fun h => by
                                have h1 := (h.row j (by rw [HLA.out]; exact hlt)).g (nth (T.gotos.getD j []) m) (by rw [nth_get (by rw [HY2.out]; exact hlm)]; exact List.getElem_mem _)
                                omega))
                              have HF : Hid (Below w.heap.size w wr) := Lib.hid (HB0.out.trans (HB4.out.mono (by omega)))
                              generalize nth (T.gotos.getD j []) m = x at *
                              go_wp2
                              go_ret
                              exact ⟨ret_eq (by rw [HN.out]; rfl), HF.out⟩
                          by_cases t2 : (ng : Int) ≤ nth (T.gotos.getD j []) m
                          · as_aux_lemma =>
                              have HN := Lib.hid (fitB_f (G := G) (T := T) (fun h => by
                                have h1 := (h.row j (by rw [HLA.out]; exact hlt)).g (nth (T.gotos.getD j []) m) (by rw [nth_get (by rw [HY2.out]; exact hlm)]; exact List.getElem_mem _)
                                rw [HLA.out] at h1
                                omega))
                              have HF : Hid (Below w.heap.size w wr) := Lib.hid (HB0.out.trans (HB4.out.mono (by omega)))
                              generalize nth (T.gotos.getD j []) m = x at *
                              go_wp2
                              go_ret
                              exact ⟨ret_eq (by rw [HN.out]; rfl), HF.out⟩
                          as_aux_lemma =>
                            have HG2 : Hid (∀ k', k' < m + 1 → -1 ≤ nth (T.gotos.getD j []) k' ∧ nth (T.gotos.getD j []) k' < T.acts.length) := Lib.hid (fun k' hk' => by
                              by_cases q : k' < m
                              · exact HGt.out k' q
                              · obtain rfl : k' = m := by omega
                                rw [HLA.out]
                                omega)
                            generalize nth (T.gotos.getD j []) m = x at v1' t1 t2
                            go_wp2
                            go_roundw
                            case rel => exact ⟨m + 1, by omega, by go_num, HG2, HB4⟩
                            case measure => simp [intOf]; omega
                      · as_aux_lemma =>
                          have hme : m = n2 := by omega
                          have hrow : RowFits G T j := ⟨by rw [HX2.out]; exact HE1.out, by rw [HY2.out]; exact HE2.out, fun k' x hx => by
                            have hlt' := (List.getElem?_eq_some_iff.1 hx).1
                            have := HFt.out k' (by rw [HX2.out] at hlt'; exact hlt')
                            rw [List.getD_eq_getElem?_getD (l := T.acts.getD j []), hx] at this
                            exact this, fun x hx => by
                            obtain ⟨i, hi, e⟩ := List.getElem_of_mem hx
                            have := HGt.out i (by rw [hme, ← HY2.out]; exact hi)
                            rw [nth_get hi, e] at this
                            exact this⟩
                          have HR2 : Hid (∀ k, k < j + 1 → RowFits G T k) := Lib.hid (fun k' hk' => by
                            by_cases q : k' < j
                            · exact HR.out k' q
                            · obtain rfl : k' = j := by omega
                              exact hrow)
                          clear hrow hme
                          go_wp2
                          go_roundw
                          case rel => exact ⟨j + 1, by omega, by go_num, HR2, HB4⟩
                          case measure => simp [intOf]; omega
      · as_aux_lemma =>
          have hje : j = ng := by omega
          have HN := Lib.hid (fitB_t (G := G) (T := T) ⟨HK.out, by rw [HLA.out]; omega, by rw [HLA.out]; omega, by rw [HLA.out, HLG.out], fun i hi => HR.out i (by rw [HLA.out] at hi; omega)⟩)
          have HF : Hid (Below w.heap.size w wr) := Lib.hid (HB0.out.trans (HB.out.mono (by omega)))
          clear hje
          go_wp2
          go_ret
          exact ⟨ret_eq (by rw [HN.out]; rfl), HF.out⟩
end Go.Proofs.YtinejiodnnjpgaaDoor
