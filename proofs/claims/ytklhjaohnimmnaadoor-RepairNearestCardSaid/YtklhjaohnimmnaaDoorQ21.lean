/- The program's Ok. · slices.ContainsFunc of integers with a closure that leaves the world alone. -/
import Derived.Test.YtklhjaohnimmnaaDoorQ20
import Derived.Test.YtklhjaohnimmnaaDoorQ9
namespace Go.Proofs.YtklhjaohnimmnaaDoor
open Go.RowKit
set_option linter.unusedVariables false
set_option linter.unusedSimpArgs false
set_option maxRecDepth 100000

theorem level_any (x : Int) (As : Option Addr) (ns cs g : Nat) (w : World) (hm : ns ≤ maxLen) (h : w.cell? ⟨g, 5, none⟩ = some (.slice As ns cs)) (b : Bool) (hb : b = decide (0 ≤ x ∧ x ≤ ns)) :
    Calls Tryd.prog 19 #[.int .i64 x, .pointer (some ⟨g, 0, none⟩)] w fun e w' => e = .returned (.bool b) ∧ w = w' := by
  unfold maxLen at hm
  by_cases h1 : 0 ≤ x
  · have d1 : decide (0 ≤ x) = true := decide_eq_true h1
    by_cases h2 : x ≤ ns
    · have d2 : decide (x ≤ (ns : Int)) = true := decide_eq_true h2
      have HF : Hid (b = true) := Lib.hid (by rw [hb]; simp [h1, h2])
      clear hb
      go_enter Tryd.func19, Tryd.ntmps19
      go_wp2
      go_ret
      exact ⟨ret_eq (by rw [HF.out]; rfl), rfl⟩
    · have d2 : decide (x ≤ (ns : Int)) = false := decide_eq_false h2
      have HF : Hid (b = false) := Lib.hid (by rw [hb]; simp [h1, h2])
      clear hb
      go_enter Tryd.func19, Tryd.ntmps19
      go_wp2
      go_ret
      exact ⟨ret_eq (by rw [HF.out]; rfl), rfl⟩
  · have d1 : decide (0 ≤ x) = false := decide_eq_false h1
    have HF : Hid (b = false) := Lib.hid (by rw [hb]; simp [h1])
    clear hb
    go_enter Tryd.func19, Tryd.ntmps19
    go_wp2
    go_ret
    exact ⟨ret_eq (by rw [HF.out]; rfl), rfl⟩

set_option maxHeartbeats 4000000 in
theorem ok_any (G : Gr) (Ap Al As : Option Addr) (np cp nl cl ns cs : Nat) (w : World) (B : Nat) (hB : B ≤ w.heap.size) (hG : GrIn w B G Ap Al As np cp nl cl ns cs) :
    Calls Tryd.prog 11 #[.agg #[.int .i64 G.terms, .int .i64 G.names, .int .i64 G.start, .slice Ap np cp, .slice Al nl cl, .slice As ns cs]] w fun e w' => e = .returned (.bool (okB G)) ∧ Below w.heap.size w w' := by
  obtain ⟨hb0, hs0, gb⟩ := gbox w G Ap Al As np cp nl cl ns cs
  obtain ⟨hp1, hp2⟩ := hG.p.len
  have hl1 := hG.ll; have hl2 := hG.sl; have hl3 := hG.lm; have hl4 := hG.sm
  have hl4' := hG.sm
  have hG0 := hG.below (hb0.mono hB)
  unfold maxLen at hp2 hl3 hl4
  by_cases q1 : G.terms < 0
  · have dq1 : decide (G.terms < 0) = true := decide_eq_true q1
    have HF := Lib.hid (okB_f (G := G) (fun h => by have := h.t0; omega))
    clear hp1 hl1 hl2 hG0 gb hG
    go_enter Tryd.func11, Tryd.ntmps11
    go_wp2
    go_ret
    exact ⟨ret_eq (by rw [HF.out]; rfl), hb0⟩
  have dq1 : decide (G.terms < 0) = false := decide_eq_false q1
  by_cases q2 : 300 < G.terms
  · have dq2 : decide (300 < G.terms) = true := decide_eq_true q2
    have HF := Lib.hid (okB_f (G := G) (fun h => by have := h.t1; omega))
    clear hp1 hl1 hl2 hG0 gb hG
    go_enter Tryd.func11, Tryd.ntmps11
    go_wp2
    go_ret
    exact ⟨ret_eq (by rw [HF.out]; rfl), hb0⟩
  have dq2 : decide (300 < G.terms) = false := decide_eq_false q2
  by_cases q3 : G.names < 1
  · have dq3 : decide (G.names < 1) = true := decide_eq_true q3
    have HF := Lib.hid (okB_f (G := G) (fun h => by have := h.n0; omega))
    clear hp1 hl1 hl2 hG0 gb hG
    go_enter Tryd.func11, Tryd.ntmps11
    go_wp2
    go_ret
    exact ⟨ret_eq (by rw [HF.out]; rfl), hb0⟩
  have dq3 : decide (G.names < 1) = false := decide_eq_false q3
  by_cases q4 : 300 < G.names
  · have dq4 : decide (300 < G.names) = true := decide_eq_true q4
    have HF := Lib.hid (okB_f (G := G) (fun h => by have := h.n1; omega))
    clear hp1 hl1 hl2 hG0 gb hG
    go_enter Tryd.func11, Tryd.ntmps11
    go_wp2
    go_ret
    exact ⟨ret_eq (by rw [HF.out]; rfl), hb0⟩
  have dq4 : decide (300 < G.names) = false := decide_eq_false q4
  by_cases q5 : G.start < 0
  · have dq5 : decide (G.start < 0) = true := decide_eq_true q5
    have HF := Lib.hid (okB_f (G := G) (fun h => by have := h.s0; omega))
    clear hp1 hl1 hl2 hG0 gb hG
    go_enter Tryd.func11, Tryd.ntmps11
    go_wp2
    go_ret
    exact ⟨ret_eq (by rw [HF.out]; rfl), hb0⟩
  have dq5 : decide (G.start < 0) = false := decide_eq_false q5
  by_cases q6 : G.names ≤ G.start
  · have dq6 : decide (G.names ≤ G.start) = true := decide_eq_true q6
    have HF := Lib.hid (okB_f (G := G) (fun h => by have := h.s1; omega))
    clear hp1 hl1 hl2 hG0 gb hG
    go_enter Tryd.func11, Tryd.ntmps11
    go_wp2
    go_ret
    exact ⟨ret_eq (by rw [HF.out]; rfl), hb0⟩
  have dq6 : decide (G.names ≤ G.start) = false := decide_eq_false q6
  by_cases q7 : 400 < (np : Int)
  · have dq7 : decide (400 < (np : Int)) = true := decide_eq_true q7
    have HF := Lib.hid (okB_f (G := G) (fun h => by have := h.p; omega))
    clear hp1 hl1 hl2 hG0 gb hG
    go_enter Tryd.func11, Tryd.ntmps11
    go_wp2
    go_ret
    exact ⟨ret_eq (by rw [HF.out]; rfl), hb0⟩
  have dq7 : decide (400 < (np : Int)) = false := decide_eq_false q7
  by_cases q8 : 50 < (ns : Int)
  · have dq8 : decide (50 < (ns : Int)) = true := decide_eq_true q8
    have HF := Lib.hid (okB_f (G := G) (fun h => by have := h.s; omega))
    clear hp1 hl1 hl2 hG0 gb hG
    by_cases q9 : (nl : Int) = 0
    · have d9 : ((nl : Int) != 0) = false := by rw [bne_eq_false_iff_eq]; exact q9
      clear q9
      go_enter Tryd.func11, Tryd.ntmps11
      go_wp2
      go_ret
      exact ⟨ret_eq (by rw [HF.out]; rfl), hb0⟩
    · have d9 : ((nl : Int) != 0) = true := by rw [bne_iff_ne]; exact q9
      cases d10 : ((nl : Int) != G.terms)
      all_goals
        go_enter Tryd.func11, Tryd.ntmps11
        go_wp2
        go_ret
        exact ⟨ret_eq (by rw [HF.out]; rfl), hb0⟩
  have dq8 : decide (50 < (ns : Int)) = false := decide_eq_false q8
  by_cases q9 : (nl : Int) = 0
  · have d9 : ((nl : Int) != 0) = false := by rw [bne_eq_false_iff_eq]; exact q9
    have HLT := Lib.hid (show G.levels.length = 0 ∨ (G.levels.length : Int) = G.terms from .inl (by omega))
    have q9' : nl ≤ 0 := by omega
    clear q9
    have HP := Lib.hid hp1; have HS := Lib.hid hl2; have HL := Lib.hid hl1; clear hp1 hl1 hl2
    have HG := Lib.hid hG0; clear hG0 hG
    have GB := Lib.hid gb; clear gb
    have HB0 := Lib.hid hb0; clear hb0
    have HM := Lib.hid hl4'; clear hl4'
    go_enter Tryd.func11, Tryd.ntmps11
    go_wp2_with fail
    generalize w.alloc (.cells #[.int .i64 G.terms, .int .i64 G.names, .int .i64 G.start, .slice Ap np cp, .slice Al nl cl, .slice As ns cs] 25) = W0 at *
    clear dq1 dq2 dq3 dq4 dq5 dq6 dq7 dq8
    go_loop [70] (fun i => ∃ k : Nat, k ≤ ns ∧ i = .int .i64 k ∧ Hid (∀ (j : Nat) (y : Int), j < k → G.sides[j]? = some y → 1 ≤ y ∧ y ≤ 3)) (fun i => ns - (intOf i).toNat)
    case atStart => exact ⟨0, Nat.zero_le _, rfl, fun j y h => absurd h (by omega)⟩
    case round =>
      as_aux_lemma =>
        obtain ⟨k, hk, rfl, HE⟩ := hrel
        by_cases hlt : k < ns
        · as_aux_lemma =>
            obtain ⟨b, off, rfl, hb, hc⟩ := HG.out.s.at_ (by rw [HS.out]; omega)
            have z := hc k (by rw [HS.out]; omega)
            have HQ := Lib.hid (getI HS.out hlt)
            clear hc
            generalize nth G.sides k = x at z HQ
            by_cases a1 : x < 1
            · have d1 : decide (x < 1) = true := decide_eq_true a1
              have HF := Lib.hid (okB_f (G := G) (fun h => by have := h.sd _ (mem_of_get HQ.out); omega))
              go_wp2
              go_ret
              exact ⟨ret_eq (by rw [HF.out]; rfl), HB0.out⟩
            have d1 : decide (x < 1) = false := decide_eq_false a1
            by_cases a2 : 3 < x
            · have d2 : decide (3 < x) = true := decide_eq_true a2
              have HF := Lib.hid (okB_f (G := G) (fun h => by have := h.sd _ (mem_of_get HQ.out); omega))
              go_wp2
              go_ret
              exact ⟨ret_eq (by rw [HF.out]; rfl), HB0.out⟩
            have d2 : decide (3 < x) = false := decide_eq_false a2
            go_wp2
            go_round
            case rel => exact ⟨k + 1, by omega, by go_num, all_step HE.out HQ.out (by omega)⟩
            case measure => simp [intOf]; omega
        · as_aux_lemma =>
            have HSD := Lib.hid (all_done HE.out (by have := HS.out; omega)); clear HE
            have gb4 := GB.out.c4
            go_wp2_with fail
            go_loop [84] (fun i => ∃ k : Nat, k ≤ nl ∧ i = .int .i64 k ∧ Hid (∀ (j : Nat) (y : Int), j < k → G.levels[j]? = some y → 0 ≤ y ∧ y ≤ G.sides.length)) (fun i => nl - (intOf i).toNat)
            case atStart => exact ⟨0, Nat.zero_le _, rfl, fun j y h => absurd h (by omega)⟩
            case round =>
              as_aux_lemma =>
                clear gb4 hlt
                obtain ⟨k, hk, rfl, HE⟩ := hrel
                by_cases hlt : k < nl
                · exact absurd hlt (by omega)
                · as_aux_lemma =>
                    have HLV := Lib.hid (all_done HE.out (by have := HL.out; omega)); clear HE
                    have gr3 := GB.out.c3
                    go_wp2_with fail
                    clear gr3 hlt
                    go_loopw [96] (fun i wr => ∃ k : Nat, k ≤ np ∧ i = .int .i64 k ∧ Below (w.heap.size + 1) W0 wr ∧ Hid (∀ (j : Nat) (y : Prd), j < k → G.prods[j]? = some y → PrOk G y)) (fun i _ => np - (intOf i).toNat)
                    case atStart => exact ⟨0, Nat.zero_le _, rfl, Below.refl _ _, fun j y h => absurd h (by omega)⟩
                    case round =>
                      as_aux_lemma =>
                        obtain ⟨k, hk, rfl, hbr, HE⟩ := hrel
                        have hfin : Below w.heap.size w wr := HB0.out.trans (hbr.mono (Nat.le_succ _))
                        have HGr := Lib.hid (HG.out.below (hbr.mono (by omega)))
                        have GRR := Lib.hid (GB.out.below hbr (Nat.lt_succ_self _))
                        by_cases hlt : k < np
                        · as_aux_lemma =>
                            obtain ⟨b, off, rfl, hb, hc⟩ := HGr.out.p.at_ (by omega)
                            obtain ⟨x, r, y, A', n', c', hq, z0, z1, z2, g1, g2, g3, g4⟩ := hc k hlt
                            have HQ := Lib.hid hq; have HR := Lib.hid g1; have HRd := Lib.hid g4; clear hc hq g1 g4
                            unfold maxLen at g3
                            have gr1 := GRR.out.c1
                            have hsz : w.heap.size < wr.heap.size := by have := hbr.size; omega
                            by_cases a1 : x < 0
                            · have da1 : decide (x < 0) = true := decide_eq_true a1
                              have HF := Lib.hid (okB_f (G := G) (fun h => by have h1 := (h.pr _ (mem_of_get HQ.out)).l0; have h2 := HR.out; have h3 := HS.out; simp only at h1; omega))
                              go_wp2
                              go_ret
                              exact ⟨ret_eq (by rw [HF.out]; rfl), hfin.alloc hfin.size _⟩
                            have da1 : decide (x < 0) = false := decide_eq_false a1
                            by_cases a2 : G.names ≤ x
                            · have da2 : decide (G.names ≤ x) = true := decide_eq_true a2
                              have HF := Lib.hid (okB_f (G := G) (fun h => by have h1 := (h.pr _ (mem_of_get HQ.out)).l1; have h2 := HR.out; have h3 := HS.out; simp only at h1; omega))
                              go_wp2
                              go_ret
                              exact ⟨ret_eq (by rw [HF.out]; rfl), hfin.alloc hfin.size _⟩
                            have da2 : decide (G.names ≤ x) = false := decide_eq_false a2
                            by_cases a5 : 20 < (n' : Int)
                            · have da5 : decide (20 < (n' : Int)) = true := decide_eq_true a5
                              have HF := Lib.hid (okB_f (G := G) (fun h => by have h1 := (h.pr _ (mem_of_get HQ.out)).r; have h2 := HR.out; have h3 := HS.out; simp only at h1; omega))
                              go_wp2
                              go_ret
                              exact ⟨ret_eq (by rw [HF.out]; rfl), hfin.alloc hfin.size _⟩
                            have da5 : decide (20 < (n' : Int)) = false := decide_eq_false a5
                            have hx : Below wr.heap.size wr (wr.alloc (.cells #[.int .i64 x, .slice A' n' c', .int .i64 y] 41)) := (Below.refl _ _).alloc (Nat.le_refl _) _
                            have zc5 := (GRR.out.below hx hsz).c5
                            by_cases av : 0 ≤ y ∧ y ≤ (ns : Int)
                            rotate_left
                            · have HC := Lib.hid (level_any y As ns cs w.heap.size _ HM.out zc5 false (decide_eq_false av).symm)
                              have HF := Lib.hid (okB_f (G := G) (fun h => by have h1 := (h.pr _ (mem_of_get HQ.out)).v0; have h2 := (h.pr _ (mem_of_get HQ.out)).v1; have h3 := HS.out; simp only at h1 h2; omega))
                              clear zc5 hx av
                              go_wp2_with (go_at_call 19; refine HC.out.mono ?_; rintro e w' ⟨rfl, rfl⟩)
                              go_ret
                              exact ⟨ret_eq (by rw [HF.out]; rfl), hfin.alloc hfin.size _⟩
                            have HC := Lib.hid (level_any y As ns cs w.heap.size _ HM.out zc5 true (decide_eq_true av).symm)
                            clear zc5
                            go_wp2_with (go_at_call 19; refine HC.out.mono ?_; rintro e w' ⟨rfl, rfl⟩)
                            obtain ⟨g6, hg6⟩ : ∃ g6, g6 = wr.heap.size := ⟨_, rfl⟩
                            have zz : (wr.alloc (.cells #[.int .i64 x, .slice A' n' c', .int .i64 y] 41)).cell? ⟨wr.heap.size, 1, none⟩ = some (.slice A' n' c') := by simp
                            rw [← hg6] at hx zz hsz ⊢
                            clear HC
                            generalize wr.alloc (.cells #[.int .i64 x, .slice A' n' c', .int .i64 y] 41) = W2 at *
                            have hw6 : wr.heap.size ≤ g6 := by omega
                            clear hg6
                            have hb2 : Below (w.heap.size + 1) W0 W2 := hbr.trans (hx.mono (by omega))
                            have HRd2 := Lib.hid (HRd.out.below (hx.mono (by omega))); clear hx HRd
                            clear zz gr1 z0 z1 z2 GRR HGr
                            go_loopw [126] (fun i wr => ∃ m : Nat, m ≤ n' ∧ i = .int .i64 m ∧ wr = W2 ∧ Hid (∀ (j : Nat) (y : Int), j < m → r[j]? = some y → -G.names ≤ y ∧ y < G.terms)) (fun i _ => n' - (intOf i).toNat)
                            case atStart => exact ⟨0, Nat.zero_le _, rfl, rfl, fun j y h => absurd h (by omega)⟩
                            case round =>
                              as_aux_lemma =>
                                obtain ⟨m, hm, rfl, rfl, HE2⟩ := hrel
                                have gm0 := (GB.out.below hb2 (Nat.lt_succ_self _)).c0
                                have gm1 := (GB.out.below hb2 (Nat.lt_succ_self _)).c1
                                by_cases hlt2 : m < n'
                                · as_aux_lemma =>
                                    obtain ⟨b', off', rfl, hb', hc'⟩ := HRd2.out.at_ (by rw [HR.out]; omega)
                                    have z := hc' m (by rw [HR.out]; omega)
                                    have HQ2 := Lib.hid (getI HR.out hlt2)
                                    clear hc'
                                    generalize nth r m = v at z HQ2
                                    by_cases a1 : G.terms ≤ v
                                    · have d1 : decide (G.terms ≤ v) = true := decide_eq_true a1
                                      have HF := Lib.hid (okB_f (G := G) (fun h => by have := (h.pr _ (mem_of_get HQ.out)).s _ (mem_of_get HQ2.out); omega))
                                      go_wp2
                                      go_ret
                                      exact ⟨ret_eq (by rw [HF.out]; rfl), HB0.out.trans (hb2.mono (Nat.le_succ _))⟩
                                    have d1 : decide (G.terms ≤ v) = false := decide_eq_false a1
                                    by_cases a2 : v < -G.names
                                    · have d2 : decide (v < -G.names) = true := decide_eq_true a2
                                      have HF := Lib.hid (okB_f (G := G) (fun h => by have := (h.pr _ (mem_of_get HQ.out)).s _ (mem_of_get HQ2.out); omega))
                                      go_wp2
                                      go_ret
                                      exact ⟨ret_eq (by rw [HF.out]; rfl), HB0.out.trans (hb2.mono (Nat.le_succ _))⟩
                                    have d2 : decide (v < -G.names) = false := decide_eq_false a2
                                    go_wp2
                                    go_roundw
                                    case rel => exact ⟨m + 1, by omega, by go_num, trivial, all_step HE2.out HQ2.out (by omega)⟩
                                    case measure => simp [intOf]; omega
                                · as_aux_lemma =>
                                    have HA := Lib.hid (all_done HE2.out (by have := HR.out; omega)); clear HE2
                                    go_wp2
                                    go_roundw
                                    case rel => exact ⟨k + 1, by omega, by go_num, hb2, all_step HE.out HQ.out ⟨by simp only; omega, by simp only; omega, by simp only; omega, by have := HS.out; simp only; omega, by have := HR.out; simp only; omega, HA.out⟩⟩
                                    case measure => simp [intOf]; omega
                        · as_aux_lemma =>
                            have HF := Lib.hid (okB_t (G := G) ⟨by omega, by omega, by omega, by omega, by omega, by omega, by have := HP.out; omega, HLT.out, by have := HS.out; omega, HSD.out, HLV.out, all_done HE.out (by have := HP.out; omega)⟩)
                            go_wp2
                            go_ret
                            exact ⟨ret_eq (by rw [HF.out]; rfl), hfin⟩
  · have d9 : ((nl : Int) != 0) = true := by rw [bne_iff_ne]; exact q9
    by_cases q10 : (nl : Int) = G.terms
    · have d10 : ((nl : Int) != G.terms) = false := by rw [bne_eq_false_iff_eq]; exact q10
      have HLT := Lib.hid (show G.levels.length = 0 ∨ (G.levels.length : Int) = G.terms from .inr (by omega)); clear q10
      have HP := Lib.hid hp1; have HS := Lib.hid hl2; have HL := Lib.hid hl1; clear hp1 hl1 hl2
      have HG := Lib.hid hG0; clear hG0 hG
      have GB := Lib.hid gb; clear gb
      have HB0 := Lib.hid hb0; clear hb0
      have HM := Lib.hid hl4'; clear hl4'
      go_enter Tryd.func11, Tryd.ntmps11
      go_wp2_with fail
      generalize w.alloc (.cells #[.int .i64 G.terms, .int .i64 G.names, .int .i64 G.start, .slice Ap np cp, .slice Al nl cl, .slice As ns cs] 25) = W0 at *
      clear dq1 dq2 dq3 dq4 dq5 dq6 dq7 dq8
      go_loop [70] (fun i => ∃ k : Nat, k ≤ ns ∧ i = .int .i64 k ∧ Hid (∀ (j : Nat) (y : Int), j < k → G.sides[j]? = some y → 1 ≤ y ∧ y ≤ 3)) (fun i => ns - (intOf i).toNat)
      case atStart => exact ⟨0, Nat.zero_le _, rfl, fun j y h => absurd h (by omega)⟩
      case round =>
        as_aux_lemma =>
          obtain ⟨k, hk, rfl, HE⟩ := hrel
          by_cases hlt : k < ns
          · as_aux_lemma =>
              obtain ⟨b, off, rfl, hb, hc⟩ := HG.out.s.at_ (by rw [HS.out]; omega)
              have z := hc k (by rw [HS.out]; omega)
              have HQ := Lib.hid (getI HS.out hlt)
              clear hc
              generalize nth G.sides k = x at z HQ
              by_cases a1 : x < 1
              · have d1 : decide (x < 1) = true := decide_eq_true a1
                have HF := Lib.hid (okB_f (G := G) (fun h => by have := h.sd _ (mem_of_get HQ.out); omega))
                go_wp2
                go_ret
                exact ⟨ret_eq (by rw [HF.out]; rfl), HB0.out⟩
              have d1 : decide (x < 1) = false := decide_eq_false a1
              by_cases a2 : 3 < x
              · have d2 : decide (3 < x) = true := decide_eq_true a2
                have HF := Lib.hid (okB_f (G := G) (fun h => by have := h.sd _ (mem_of_get HQ.out); omega))
                go_wp2
                go_ret
                exact ⟨ret_eq (by rw [HF.out]; rfl), HB0.out⟩
              have d2 : decide (3 < x) = false := decide_eq_false a2
              go_wp2
              go_round
              case rel => exact ⟨k + 1, by omega, by go_num, all_step HE.out HQ.out (by omega)⟩
              case measure => simp [intOf]; omega
          · as_aux_lemma =>
              have HSD := Lib.hid (all_done HE.out (by have := HS.out; omega)); clear HE
              have gb4 := GB.out.c4
              go_wp2_with fail
              go_loop [84] (fun i => ∃ k : Nat, k ≤ nl ∧ i = .int .i64 k ∧ Hid (∀ (j : Nat) (y : Int), j < k → G.levels[j]? = some y → 0 ≤ y ∧ y ≤ G.sides.length)) (fun i => nl - (intOf i).toNat)
              case atStart => exact ⟨0, Nat.zero_le _, rfl, fun j y h => absurd h (by omega)⟩
              case round =>
                as_aux_lemma =>
                  clear gb4 hlt
                  obtain ⟨k, hk, rfl, HE⟩ := hrel
                  by_cases hlt : k < nl
                  · as_aux_lemma =>
                      obtain ⟨b, off, rfl, hb, hc⟩ := HG.out.l.at_ (by rw [HL.out]; omega)
                      have z := hc k (by rw [HL.out]; omega)
                      have HQ := Lib.hid (getI HL.out hlt)
                      clear hc
                      generalize nth G.levels k = x at z HQ
                      by_cases a : 0 ≤ x ∧ x ≤ (ns : Int)
                      · have HC := Lib.hid (level_any x As ns cs w.heap.size W0 HM.out GB.out.c5 true (decide_eq_true a).symm)
                        go_wp2_with (go_at_call 19; refine HC.out.mono ?_; rintro e w' ⟨rfl, rfl⟩)
                        go_round
                        case rel => exact ⟨k + 1, by omega, by go_num, all_step HE.out HQ.out (by have := HS.out; omega)⟩
                        case measure => simp [intOf]; omega
                      · have HC := Lib.hid (level_any x As ns cs w.heap.size W0 HM.out GB.out.c5 false (decide_eq_false a).symm)
                        have HF := Lib.hid (okB_f (G := G) (fun h => by have := h.lv _ (mem_of_get HQ.out); have := HS.out; omega))
                        clear a
                        go_wp2_with (go_at_call 19; refine HC.out.mono ?_; rintro e w' ⟨rfl, rfl⟩)
                        go_ret
                        exact ⟨ret_eq (by rw [HF.out]; rfl), HB0.out⟩
                  · as_aux_lemma =>
                      have HLV := Lib.hid (all_done HE.out (by have := HL.out; omega)); clear HE
                      have gr3 := GB.out.c3
                      go_wp2_with fail
                      clear gr3 hlt
                      go_loopw [96] (fun i wr => ∃ k : Nat, k ≤ np ∧ i = .int .i64 k ∧ Below (w.heap.size + 1) W0 wr ∧ Hid (∀ (j : Nat) (y : Prd), j < k → G.prods[j]? = some y → PrOk G y)) (fun i _ => np - (intOf i).toNat)
                      case atStart => exact ⟨0, Nat.zero_le _, rfl, Below.refl _ _, fun j y h => absurd h (by omega)⟩
                      case round =>
                        as_aux_lemma =>
                          obtain ⟨k, hk, rfl, hbr, HE⟩ := hrel
                          have hfin : Below w.heap.size w wr := HB0.out.trans (hbr.mono (Nat.le_succ _))
                          have HGr := Lib.hid (HG.out.below (hbr.mono (by omega)))
                          have GRR := Lib.hid (GB.out.below hbr (Nat.lt_succ_self _))
                          by_cases hlt : k < np
                          · as_aux_lemma =>
                              obtain ⟨b, off, rfl, hb, hc⟩ := HGr.out.p.at_ (by omega)
                              obtain ⟨x, r, y, A', n', c', hq, z0, z1, z2, g1, g2, g3, g4⟩ := hc k hlt
                              have HQ := Lib.hid hq; have HR := Lib.hid g1; have HRd := Lib.hid g4; clear hc hq g1 g4
                              unfold maxLen at g3
                              have gr1 := GRR.out.c1
                              have hsz : w.heap.size < wr.heap.size := by have := hbr.size; omega
                              by_cases a1 : x < 0
                              · have da1 : decide (x < 0) = true := decide_eq_true a1
                                have HF := Lib.hid (okB_f (G := G) (fun h => by have h1 := (h.pr _ (mem_of_get HQ.out)).l0; have h2 := HR.out; have h3 := HS.out; simp only at h1; omega))
                                go_wp2
                                go_ret
                                exact ⟨ret_eq (by rw [HF.out]; rfl), hfin.alloc hfin.size _⟩
                              have da1 : decide (x < 0) = false := decide_eq_false a1
                              by_cases a2 : G.names ≤ x
                              · have da2 : decide (G.names ≤ x) = true := decide_eq_true a2
                                have HF := Lib.hid (okB_f (G := G) (fun h => by have h1 := (h.pr _ (mem_of_get HQ.out)).l1; have h2 := HR.out; have h3 := HS.out; simp only at h1; omega))
                                go_wp2
                                go_ret
                                exact ⟨ret_eq (by rw [HF.out]; rfl), hfin.alloc hfin.size _⟩
                              have da2 : decide (G.names ≤ x) = false := decide_eq_false a2
                              by_cases a5 : 20 < (n' : Int)
                              · have da5 : decide (20 < (n' : Int)) = true := decide_eq_true a5
                                have HF := Lib.hid (okB_f (G := G) (fun h => by have h1 := (h.pr _ (mem_of_get HQ.out)).r; have h2 := HR.out; have h3 := HS.out; simp only at h1; omega))
                                go_wp2
                                go_ret
                                exact ⟨ret_eq (by rw [HF.out]; rfl), hfin.alloc hfin.size _⟩
                              have da5 : decide (20 < (n' : Int)) = false := decide_eq_false a5
                              have hx : Below wr.heap.size wr (wr.alloc (.cells #[.int .i64 x, .slice A' n' c', .int .i64 y] 41)) := (Below.refl _ _).alloc (Nat.le_refl _) _
                              have zc5 := (GRR.out.below hx hsz).c5
                              by_cases av : 0 ≤ y ∧ y ≤ (ns : Int)
                              rotate_left
                              · have HC := Lib.hid (level_any y As ns cs w.heap.size _ HM.out zc5 false (decide_eq_false av).symm)
                                have HF := Lib.hid (okB_f (G := G) (fun h => by have h1 := (h.pr _ (mem_of_get HQ.out)).v0; have h2 := (h.pr _ (mem_of_get HQ.out)).v1; have h3 := HS.out; simp only at h1 h2; omega))
                                clear zc5 hx av
                                go_wp2_with (go_at_call 19; refine HC.out.mono ?_; rintro e w' ⟨rfl, rfl⟩)
                                go_ret
                                exact ⟨ret_eq (by rw [HF.out]; rfl), hfin.alloc hfin.size _⟩
                              have HC := Lib.hid (level_any y As ns cs w.heap.size _ HM.out zc5 true (decide_eq_true av).symm)
                              clear zc5
                              go_wp2_with (go_at_call 19; refine HC.out.mono ?_; rintro e w' ⟨rfl, rfl⟩)
                              obtain ⟨g6, hg6⟩ : ∃ g6, g6 = wr.heap.size := ⟨_, rfl⟩
                              have zz : (wr.alloc (.cells #[.int .i64 x, .slice A' n' c', .int .i64 y] 41)).cell? ⟨wr.heap.size, 1, none⟩ = some (.slice A' n' c') := by simp
                              rw [← hg6] at hx zz hsz ⊢
                              clear HC
                              generalize wr.alloc (.cells #[.int .i64 x, .slice A' n' c', .int .i64 y] 41) = W2 at *
                              have hw6 : wr.heap.size ≤ g6 := by omega
                              clear hg6
                              have hb2 : Below (w.heap.size + 1) W0 W2 := hbr.trans (hx.mono (by omega))
                              have HRd2 := Lib.hid (HRd.out.below (hx.mono (by omega))); clear hx HRd
                              clear zz gr1 z0 z1 z2 GRR HGr
                              go_loopw [126] (fun i wr => ∃ m : Nat, m ≤ n' ∧ i = .int .i64 m ∧ wr = W2 ∧ Hid (∀ (j : Nat) (y : Int), j < m → r[j]? = some y → -G.names ≤ y ∧ y < G.terms)) (fun i _ => n' - (intOf i).toNat)
                              case atStart => exact ⟨0, Nat.zero_le _, rfl, rfl, fun j y h => absurd h (by omega)⟩
                              case round =>
                                as_aux_lemma =>
                                  obtain ⟨m, hm, rfl, rfl, HE2⟩ := hrel
                                  have gm0 := (GB.out.below hb2 (Nat.lt_succ_self _)).c0
                                  have gm1 := (GB.out.below hb2 (Nat.lt_succ_self _)).c1
                                  by_cases hlt2 : m < n'
                                  · as_aux_lemma =>
                                      obtain ⟨b', off', rfl, hb', hc'⟩ := HRd2.out.at_ (by rw [HR.out]; omega)
                                      have z := hc' m (by rw [HR.out]; omega)
                                      have HQ2 := Lib.hid (getI HR.out hlt2)
                                      clear hc'
                                      generalize nth r m = v at z HQ2
                                      by_cases a1 : G.terms ≤ v
                                      · have d1 : decide (G.terms ≤ v) = true := decide_eq_true a1
                                        have HF := Lib.hid (okB_f (G := G) (fun h => by have := (h.pr _ (mem_of_get HQ.out)).s _ (mem_of_get HQ2.out); omega))
                                        go_wp2
                                        go_ret
                                        exact ⟨ret_eq (by rw [HF.out]; rfl), HB0.out.trans (hb2.mono (Nat.le_succ _))⟩
                                      have d1 : decide (G.terms ≤ v) = false := decide_eq_false a1
                                      by_cases a2 : v < -G.names
                                      · have d2 : decide (v < -G.names) = true := decide_eq_true a2
                                        have HF := Lib.hid (okB_f (G := G) (fun h => by have := (h.pr _ (mem_of_get HQ.out)).s _ (mem_of_get HQ2.out); omega))
                                        go_wp2
                                        go_ret
                                        exact ⟨ret_eq (by rw [HF.out]; rfl), HB0.out.trans (hb2.mono (Nat.le_succ _))⟩
                                      have d2 : decide (v < -G.names) = false := decide_eq_false a2
                                      go_wp2
                                      go_roundw
                                      case rel => exact ⟨m + 1, by omega, by go_num, trivial, all_step HE2.out HQ2.out (by omega)⟩
                                      case measure => simp [intOf]; omega
                                  · as_aux_lemma =>
                                      have HA := Lib.hid (all_done HE2.out (by have := HR.out; omega)); clear HE2
                                      go_wp2
                                      go_roundw
                                      case rel => exact ⟨k + 1, by omega, by go_num, hb2, all_step HE.out HQ.out ⟨by simp only; omega, by simp only; omega, by simp only; omega, by have := HS.out; simp only; omega, by have := HR.out; simp only; omega, HA.out⟩⟩
                                      case measure => simp [intOf]; omega
                          · as_aux_lemma =>
                              have HF := Lib.hid (okB_t (G := G) ⟨by omega, by omega, by omega, by omega, by omega, by omega, by have := HP.out; omega, HLT.out, by have := HS.out; omega, HSD.out, HLV.out, all_done HE.out (by have := HP.out; omega)⟩)
                              go_wp2
                              go_ret
                              exact ⟨ret_eq (by rw [HF.out]; rfl), hfin⟩
    · have d10 : ((nl : Int) != G.terms) = true := by rw [bne_iff_ne]; exact q10
      have HF := Lib.hid (okB_f (G := G) (fun h => by have := h.l; omega))
      clear hp1 hl1 hl2 hG0 gb hG q10
      go_enter Tryd.func11, Tryd.ntmps11
      go_wp2
      go_ret
      exact ⟨ret_eq (by rw [HF.out]; rfl), hb0⟩
end Go.Proofs.YtklhjaohnimmnaaDoor
namespace Go.Proofs.YtklhjaohnimmnaaDoor
open Go.RowKit
set_option linter.unusedVariables false
set_option linter.unusedSimpArgs false
set_option maxRecDepth 100000

theorem any_take {f : Int → Bool} {l : List Int} {k : Nat} (h : k < l.length) (ha : (l.take k).any f = false) (hf : f (nth l k) = false) : (l.take (k + 1)).any f = false := by
  rw [List.take_succ_eq_append_getElem h, List.any_append, ha, ← nth_get h]; simp [hf]
theorem any_yes {f : Int → Bool} {l : List Int} {k : Nat} (h : k < l.length) (hf : f (nth l k) = true) : l.any f = true := by
  rw [List.any_eq_true]; exact ⟨nth l k, mem_nth h, hf⟩


theorem index1 (fid : FuncId) (v0 : Nat) (f : Int → Bool) (A : Option Addr) (n c : Nat) (l : List Int) (w : World) (B : Nat) (hrun : ∀ args w, (callFunc fid args).run Tryd.prog w = .ok (.enter fid args) w)
    (h : RdI w B A l) (hl : l.length = n) (hm : n ≤ maxLen) (hcall : ∀ x ∈ l, Calls Tryd.prog fid #[.int .i64 x, .pointer (some ⟨v0, 0, none⟩)] w fun e w' => e = .returned (.bool (f x)) ∧ w = w') :
    Calls Tryd.prog 36 #[.slice A n c, .func (.func fid) #[] #[.pointer (some ⟨v0, 0, none⟩)]] w fun e w' => ∃ i : Int, e = .returned (.int .i64 i) ∧ Hid (decide (0 ≤ i) = l.any f) ∧ w = w' := by
  unfold maxLen at hm
  have Hl := Lib.hid hl; have H := Lib.hid h; have HCALL := Lib.hid hcall; clear hl h hcall
  go_enter Tryd.func36, Tryd.ntmps36
  go_wp2_with fail
  go_loop [8] (fun i => ∃ k : Nat, k ≤ n ∧ i = .int .i64 k ∧ Hid ((l.take k).any f = false)) (fun i => n - (intOf i).toNat)
  case atStart => exact ⟨0, Nat.zero_le _, rfl, rfl⟩
  case round =>
    obtain ⟨k, hk, rfl, HE⟩ := hrel
    by_cases hlt : k < n
    · obtain ⟨b, off, rfl, hb, hc⟩ := H.out.at_ (by rw [Hl.out]; omega)
      have c1 := hc k (by rw [Hl.out]; omega)
      have hmem := mem_nth (l := l) (k := k) (by rw [Hl.out]; exact hlt)
      have hcl := HCALL.out _ hmem
      have hy := any_yes (f := f) (l := l) (k := k) (by rw [Hl.out]; exact hlt)
      have ht := any_take (f := f) (l := l) (k := k) (by rw [Hl.out]; exact hlt) HE.out
      clear hc hmem
      generalize nth l k = x at c1 hcl hy ht
      cases hb1 : f x
      · rw [hb1] at hcl
        have HC := Lib.hid hcl; have HT := Lib.hid (ht hb1)
        clear hcl hy ht hb1
        go_wp2_with fail
        refine HC.out.mono ?_
        rintro e w' ⟨rfl, rfl⟩
        go_wp2_with fail
        go_round
        case rel => exact ⟨k + 1, by omega, by go_num, HT⟩
        case measure => simp [intOf]; omega
      · rw [hb1] at hcl
        have HC := Lib.hid hcl; have HY := Lib.hid (hy hb1)
        clear hcl hy ht hb1
        go_wp2_with fail
        refine HC.out.mono ?_
        rintro e w' ⟨rfl, rfl⟩
        go_wp2_with fail
        go_ret
        exact ⟨k, rfl, by show _ = _; rw [HY.out]; simp, rfl⟩
    · have hx : l.any f = false := by have := HE.out; rwa [List.take_of_length_le (by rw [Hl.out]; omega)] at this
      have HX := Lib.hid hx; clear hx
      go_wp2
      go_ret
      exact ⟨-1, rfl, by show _ = _; rw [HX.out]; rfl, rfl⟩

theorem contains1 (fid : FuncId) (v0 : Nat) (f : Int → Bool) (A : Option Addr) (n c : Nat) (l : List Int) (w : World) (B : Nat) (hrun : ∀ args w, (callFunc fid args).run Tryd.prog w = .ok (.enter fid args) w)
    (h : RdI w B A l) (hl : l.length = n) (hm : n ≤ maxLen) (hcall : ∀ x ∈ l, Calls Tryd.prog fid #[.int .i64 x, .pointer (some ⟨v0, 0, none⟩)] w fun e w' => e = .returned (.bool (f x)) ∧ w = w') :
    Calls Tryd.prog 20 #[.slice A n c, .func (.func fid) #[] #[.pointer (some ⟨v0, 0, none⟩)]] w fun e w' => e = .returned (.bool (l.any f)) ∧ w = w' := by
  have HC := Lib.hid (index1 fid v0 f A n c l w B hrun h hl hm hcall)
  clear h hl hm hcall
  go_enter Tryd.func20, Tryd.ntmps20
  go_wp2_with fail
  refine HC.out.mono ?_
  rintro e w' ⟨i, rfl, HI, rfl⟩
  go_wp2
  go_ret
  exact ⟨ret_eq (by rw [← HI.out]; rfl), rfl⟩


theorem index2 (fid : FuncId) (v0 v1 : Nat) (f : Int → Bool) (A : Option Addr) (n c : Nat) (l : List Int) (w : World) (B : Nat) (hrun : ∀ args w, (callFunc fid args).run Tryd.prog w = .ok (.enter fid args) w)
    (h : RdI w B A l) (hl : l.length = n) (hm : n ≤ maxLen) (hcall : ∀ x ∈ l, Calls Tryd.prog fid #[.int .i64 x, .pointer (some ⟨v0, 0, none⟩), .pointer (some ⟨v1, 0, none⟩)] w fun e w' => e = .returned (.bool (f x)) ∧ w = w') :
    Calls Tryd.prog 36 #[.slice A n c, .func (.func fid) #[] #[.pointer (some ⟨v0, 0, none⟩), .pointer (some ⟨v1, 0, none⟩)]] w fun e w' => ∃ i : Int, e = .returned (.int .i64 i) ∧ Hid (decide (0 ≤ i) = l.any f) ∧ w = w' := by
  unfold maxLen at hm
  have Hl := Lib.hid hl; have H := Lib.hid h; have HCALL := Lib.hid hcall; clear hl h hcall
  go_enter Tryd.func36, Tryd.ntmps36
  go_wp2_with fail
  go_loop [8] (fun i => ∃ k : Nat, k ≤ n ∧ i = .int .i64 k ∧ Hid ((l.take k).any f = false)) (fun i => n - (intOf i).toNat)
  case atStart => exact ⟨0, Nat.zero_le _, rfl, rfl⟩
  case round =>
    obtain ⟨k, hk, rfl, HE⟩ := hrel
    by_cases hlt : k < n
    · obtain ⟨b, off, rfl, hb, hc⟩ := H.out.at_ (by rw [Hl.out]; omega)
      have c1 := hc k (by rw [Hl.out]; omega)
      have hmem := mem_nth (l := l) (k := k) (by rw [Hl.out]; exact hlt)
      have hcl := HCALL.out _ hmem
      have hy := any_yes (f := f) (l := l) (k := k) (by rw [Hl.out]; exact hlt)
      have ht := any_take (f := f) (l := l) (k := k) (by rw [Hl.out]; exact hlt) HE.out
      clear hc hmem
      generalize nth l k = x at c1 hcl hy ht
      cases hb1 : f x
      · rw [hb1] at hcl
        have HC := Lib.hid hcl; have HT := Lib.hid (ht hb1)
        clear hcl hy ht hb1
        go_wp2_with fail
        refine HC.out.mono ?_
        rintro e w' ⟨rfl, rfl⟩
        go_wp2_with fail
        go_round
        case rel => exact ⟨k + 1, by omega, by go_num, HT⟩
        case measure => simp [intOf]; omega
      · rw [hb1] at hcl
        have HC := Lib.hid hcl; have HY := Lib.hid (hy hb1)
        clear hcl hy ht hb1
        go_wp2_with fail
        refine HC.out.mono ?_
        rintro e w' ⟨rfl, rfl⟩
        go_wp2_with fail
        go_ret
        exact ⟨k, rfl, by show _ = _; rw [HY.out]; simp, rfl⟩
    · have hx : l.any f = false := by have := HE.out; rwa [List.take_of_length_le (by rw [Hl.out]; omega)] at this
      have HX := Lib.hid hx; clear hx
      go_wp2
      go_ret
      exact ⟨-1, rfl, by show _ = _; rw [HX.out]; rfl, rfl⟩

theorem contains2 (fid : FuncId) (v0 v1 : Nat) (f : Int → Bool) (A : Option Addr) (n c : Nat) (l : List Int) (w : World) (B : Nat) (hrun : ∀ args w, (callFunc fid args).run Tryd.prog w = .ok (.enter fid args) w)
    (h : RdI w B A l) (hl : l.length = n) (hm : n ≤ maxLen) (hcall : ∀ x ∈ l, Calls Tryd.prog fid #[.int .i64 x, .pointer (some ⟨v0, 0, none⟩), .pointer (some ⟨v1, 0, none⟩)] w fun e w' => e = .returned (.bool (f x)) ∧ w = w') :
    Calls Tryd.prog 20 #[.slice A n c, .func (.func fid) #[] #[.pointer (some ⟨v0, 0, none⟩), .pointer (some ⟨v1, 0, none⟩)]] w fun e w' => e = .returned (.bool (l.any f)) ∧ w = w' := by
  have HC := Lib.hid (index2 fid v0 v1 f A n c l w B hrun h hl hm hcall)
  clear h hl hm hcall
  go_enter Tryd.func20, Tryd.ntmps20
  go_wp2_with fail
  refine HC.out.mono ?_
  rintro e w' ⟨i, rfl, HI, rfl⟩
  go_wp2
  go_ret
  exact ⟨ret_eq (by rw [← HI.out]; rfl), rfl⟩
end Go.Proofs.YtklhjaohnimmnaaDoor
