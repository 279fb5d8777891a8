/- repair.Cost. · repair.Cost: the table. -/
import Derived.Test.YtklhjaohnimmnaaDoorQ13
import Derived.Test.YtklhjaohnimmnaaDoorQ10
import Derived.StillTailTactics
import Derived.BigRegion
import Derived.Deep.LoopGhost
namespace Go.Proofs.YtklhjaohnimmnaaDoor
open Go.RowKit
set_option linter.unusedVariables false
set_option linter.unusedSimpArgs false
set_option maxRecDepth 100000

theorem run_min (P : Program) (a b m : Int) (h : m = min a b) : ∀ (ts : Array TypeId) (t : TypeId) (w : World), (Builtin.min_ ts t #[.int .i64 a, .int .i64 b]).run P w = .ok (.int .i64 m) w := by
  intro ts t w
  rw [run_min_int2, show (if b < a then b else a) = m from by split <;> omega]

theorem cost_bad (A1 A2 A3 A4 : Option Addr) (n1 c1 n2 c2 n3 c3 n4 c4 : Nat) (P L F T : List Int) (w : World) (B : Nat) (hB : B ≤ w.heap.size)
    (h1 : RdI w B A1 P) (h2 : RdI w B A2 L) (h3 : RdI w B A3 F) (h4 : RdI w B A4 T) (l1 : P.length = n1) (l2 : L.length = n2) (l3 : F.length = n3) (l4 : T.length = n4)
    (m1 : n1 ≤ maxLen) (m2 : n2 ≤ maxLen) (m3 : n3 ≤ maxLen) (m4 : n4 ≤ maxLen) (hb : ¬ (P.all costB = true ∧ L.all costB = true ∧ n3 ≤ 1000 ∧ n4 ≤ 1000)) :
    Calls Tryd.prog 8 #[.agg #[.slice A1 n1 c1, .slice A2 n2 c2], .slice A3 n3 c3, .slice A4 n4 c4] w fun e w' => e = .returned (.int .i64 (-1)) ∧ Below w.heap.size w w' := by
  have hb0 : Below w.heap.size w (w.alloc (.cells #[.slice A1 n1 c1, .slice A2 n2 c2] 27)) := (Below.refl _ _).alloc (Nat.le_refl _) _
  have hc0 : (w.alloc (.cells #[.slice A1 n1 c1, .slice A2 n2 c2] 27)).cell? ⟨w.heap.size, 0, none⟩ = some (.slice A1 n1 c1) := by simp
  have hc1 : (w.alloc (.cells #[.slice A1 n1 c1, .slice A2 n2 c2] 27)).cell? ⟨w.heap.size, 1, none⟩ = some (.slice A2 n2 c2) := by simp
  have hW0 : (w.alloc (.cells #[.slice A1 n1 c1, .slice A2 n2 c2] 27)).heap.size = w.heap.size + 1 := by simp
  obtain ⟨W0, hW⟩ : ∃ W0, W0 = w.alloc (.cells #[.slice A1 n1 c1, .slice A2 n2 c2] 27) := ⟨_, rfl⟩
  rw [← hW] at hb0 hc0 hc1 hW0
  have hcall1 := costs_any A1 n1 c1 P (min (n1 : Int) n2) W0 B (h1.below (hb0.mono hB)) l1 m1
  have hcall2 := costs_any A2 n2 c2 L (min (n1 : Int) n2) W0 B (h2.below (hb0.mono hB)) l2 m2
  rw [show decide (min (n1 : Int) n2 ≤ n1) = true from decide_eq_true (by omega), Bool.true_and] at hcall1
  rw [show decide (min (n1 : Int) n2 ≤ n2) = true from decide_eq_true (by omega), Bool.true_and] at hcall2
  obtain ⟨m, hm⟩ : ∃ m : Nat, m = min n1 n2 := ⟨_, rfl⟩
  have hmi : (m : Int) = min (n1 : Int) n2 := by omega
  rw [← hmi] at hcall1 hcall2
  have hmin := run_min Tryd.prog n1 n2 m hmi
  have hmm : m ≤ maxLen := by omega
  unfold maxLen at hmm m1 m2 m3 m4
  clear hmi hm
  have go : ∀ (p q : Bool), P.all costB = p → L.all costB = q → Calls Tryd.prog 8 #[.agg #[.slice A1 n1 c1, .slice A2 n2 c2], .slice A3 n3 c3, .slice A4 n4 c4] w fun e w' => e = .returned (.int .i64 (-1)) ∧ Below w.heap.size w w' := by
    intro p q e1 e2
    rw [e1] at hcall1 hb
    rw [e2] at hcall2 hb
    clear e1 e2
    have HC1 := Lib.hid hcall1; have HC2 := Lib.hid hcall2; clear hcall1 hcall2
    subst hW
    cases p
    · clear hb
      go_enter Tryd.func8, Tryd.ntmps8
      go_wp2_with (go_at_call 12; refine HC1.out.mono ?_; rintro e w' ⟨rfl, rfl⟩)
      go_ret
      exact ⟨rfl, hb0⟩
    cases q
    · clear hb
      go_enter Tryd.func8, Tryd.ntmps8
      go_wp2_with (go_at_call 12; first | (with_reducible refine HC1.out.mono ?_; rintro e w' ⟨rfl, rfl⟩) | (refine HC2.out.mono ?_; rintro e w' ⟨rfl, rfl⟩))
      go_ret
      exact ⟨rfl, hb0⟩
    by_cases h3 : n3 ≤ 1000
    · have h4 : 1000 < (n4 : Int) := by
        rcases Nat.lt_or_ge 1000 n4 with g | g
        · omega
        · exact absurd ⟨rfl, rfl, h3, g⟩ hb
      have h3' : ¬ (1000 < (n3 : Int)) := by omega
      have d3 : decide ((1000 : Int) < n3) = false := decide_eq_false h3'
      have d4 : decide ((1000 : Int) < n4) = true := decide_eq_true h4
      clear hb h3
      go_enter Tryd.func8, Tryd.ntmps8
      go_wp2_with (go_at_call 12; first | (with_reducible refine HC1.out.mono ?_; rintro e w' ⟨rfl, rfl⟩) | (refine HC2.out.mono ?_; rintro e w' ⟨rfl, rfl⟩))
      go_ret
      exact ⟨rfl, hb0⟩
    · have h3' : 1000 < (n3 : Int) := by omega
      have d3 : decide ((1000 : Int) < n3) = true := decide_eq_true h3'
      clear hb h3
      go_enter Tryd.func8, Tryd.ntmps8
      go_wp2_with (go_at_call 12; first | (with_reducible refine HC1.out.mono ?_; rintro e w' ⟨rfl, rfl⟩) | (refine HC2.out.mono ?_; rintro e w' ⟨rfl, rfl⟩))
      go_ret
      exact ⟨rfl, hb0⟩
  exact go _ _ rfl rfl
end Go.Proofs.YtklhjaohnimmnaaDoor
namespace Go.Proofs.YtklhjaohnimmnaaDoor
open Go.RowKit
set_option linter.unusedVariables false
set_option linter.unusedSimpArgs false
set_option maxRecDepth 100000

theorem all_app {f : Int → Bool} {l l' : List Int} : (l ++ l').all f = (l.all f && l'.all f) := List.all_append

set_option maxHeartbeats 4000000 in
theorem cost_good (A1 A2 A3 A4 : Option Addr) (n1 c1 n2 c2 n3 c3 n4 c4 : Nat) (P L F T : List Int) (w : World) (B : Nat) (hB : B ≤ w.heap.size)
    (h1 : RdI w B A1 P) (h2 : RdI w B A2 L) (h3 : RdI w B A3 F) (h4 : RdI w B A4 T) (l1 : P.length = n1) (l2 : L.length = n2) (l3 : F.length = n3) (l4 : T.length = n4)
    (m1 : n1 ≤ maxLen) (m2 : n2 ≤ maxLen) (m3 : n3 ≤ 1000) (m4 : n4 ≤ 1000) (e1 : P.all costB = true) (e2 : L.all costB = true) :
    Calls Tryd.prog 8 #[.agg #[.slice A1 n1 c1, .slice A2 n2 c2], .slice A3 n3 c3, .slice A4 n4 c4] w fun e w' => e = .returned (.int .i64 (costA P L F T)) ∧ Below w.heap.size w w' := by
  have hb0 : Below w.heap.size w (w.alloc (.cells #[.slice A1 n1 c1, .slice A2 n2 c2] 27)) := (Below.refl _ _).alloc (Nat.le_refl _) _
  have hc0 : (w.alloc (.cells #[.slice A1 n1 c1, .slice A2 n2 c2] 27)).cell? ⟨w.heap.size, 0, none⟩ = some (.slice A1 n1 c1) := by simp
  have hc1 : (w.alloc (.cells #[.slice A1 n1 c1, .slice A2 n2 c2] 27)).cell? ⟨w.heap.size, 1, none⟩ = some (.slice A2 n2 c2) := by simp
  have hW0 : (w.alloc (.cells #[.slice A1 n1 c1, .slice A2 n2 c2] 27)).heap.size = w.heap.size + 1 := by simp
  obtain ⟨W0, hW⟩ : ∃ W0, W0 = w.alloc (.cells #[.slice A1 n1 c1, .slice A2 n2 c2] 27) := ⟨_, rfl⟩
  rw [← hW] at hb0 hc0 hc1 hW0
  have hcall1 := costs_any A1 n1 c1 P (min (n1 : Int) n2) W0 B (h1.below (hb0.mono hB)) l1 m1
  have hcall2 := costs_any A2 n2 c2 L (min (n1 : Int) n2) W0 B (h2.below (hb0.mono hB)) l2 m2
  rw [show decide (min (n1 : Int) n2 ≤ n1) = true from decide_eq_true (by omega), Bool.true_and] at hcall1
  rw [show decide (min (n1 : Int) n2 ≤ n2) = true from decide_eq_true (by omega), Bool.true_and] at hcall2
  have hcost : costA P L F T = if (F ++ T).all (insB (min (n1 : Int) n2)) = true then edit (nthI P) (nthI L) F T else -1 := by
    unfold costA
    rw [all_app, l1, l2, l3, l4]
    simp [e1, e2, m3, m4]
  have hbnd := @ed_bound P L F T e1 e2
  have HPB := Lib.hid (costs_nth e1)
  have HLB := Lib.hid (costs_nth e2)
  rw [e1] at hcall1
  rw [e2] at hcall2
  clear e1 e2
  obtain ⟨m, hm⟩ : ∃ m : Nat, m = min n1 n2 := ⟨_, rfl⟩
  have hmi : (m : Int) = min (n1 : Int) n2 := by omega
  rw [← hmi] at hcall1 hcall2 hcost
  have hmin := run_min Tryd.prog n1 n2 m hmi
  have hmm : m ≤ maxLen := by omega
  have hm1 : m ≤ n1 := by omega
  have hm2 : m ≤ n2 := by omega
  unfold maxLen at hmm m1 m2
  clear hmi hm
  have HC1 := Lib.hid hcall1; have HC2 := Lib.hid hcall2; clear hcall1 hcall2
  have HCO := Lib.hid hcost; clear hcost
  have HBD := Lib.hid hbnd; clear hbnd
  have h3' : ¬ (1000 < (n3 : Int)) := by omega
  have h4' : ¬ (1000 < (n4 : Int)) := by omega
  have d3 : decide ((1000 : Int) < n3) = false := decide_eq_false h3'
  have d4 : decide ((1000 : Int) < n4) = false := decide_eq_false h4'
  -- Concat
  have hsz : ((w.alloc (.cells #[.slice A1 n1 c1, .slice A2 n2 c2] 27)).alloc (.cells #[.slice A3 n3 c3, .slice A4 n4 c4] 23)).heap.size = w.heap.size + 2 := by simp
  have hbw : Below w.heap.size w ((w.alloc (.cells #[.slice A1 n1 c1, .slice A2 n2 c2] 27)).alloc (.cells #[.slice A3 n3 c3, .slice A4 n4 c4] 23)) := ((Below.refl _ w).alloc (Nat.le_refl _) _).alloc (by simp) _
  have hk0 : ((w.alloc (.cells #[.slice A1 n1 c1, .slice A2 n2 c2] 27)).alloc (.cells #[.slice A3 n3 c3, .slice A4 n4 c4] 23)).cell? ⟨w.heap.size, 0, none⟩ = some (.slice A1 n1 c1) := by
    rw [← hc0, hW]; exact (((Below.refl _ (w.alloc _)).alloc (Nat.le_refl _) _).cell (p := ⟨w.heap.size, 0, none⟩) (by simp))
  have hk1 : ((w.alloc (.cells #[.slice A1 n1 c1, .slice A2 n2 c2] 27)).alloc (.cells #[.slice A3 n3 c3, .slice A4 n4 c4] 23)).cell? ⟨w.heap.size, 1, none⟩ = some (.slice A2 n2 c2) := by
    rw [← hc1, hW]; exact (((Below.refl _ (w.alloc _)).alloc (Nat.le_refl _) _).cell (p := ⟨w.heap.size, 1, none⟩) (by simp))
  have hcall3 := concat_any A3 A4 n3 c3 n4 c4 F T (w.heap.size + 1) 0 2 ((w.alloc (.cells #[.slice A1 n1 c1, .slice A2 n2 c2] 27)).alloc (.cells #[.slice A3 n3 c3, .slice A4 n4 c4] 23)) B (by simp)
    (by simp) (by simp)
    (h3.below (hbw.mono hB)) l3 (by omega) (h4.below (hbw.mono hB)) l4 (by omega) (by rw [hsz]; omega)
  rw [hsz] at hcall3
  have HC3 := Lib.hid hcall3; clear hcall3
  have ll3 := Lib.hid l3; have ll4 := Lib.hid l4; have ll1 := Lib.hid l1; have ll2 := Lib.hid l2; clear l1 l2 l3 l4
  have HH1 := Lib.hid h1; have HH2 := Lib.hid h2; have HH3 := Lib.hid h3; have HH4 := Lib.hid h4; clear h1 h2 h3 h4
  have HK0 := Lib.hid hk0; have HK1 := Lib.hid hk1; have HBW := Lib.hid hbw; have HSZ := Lib.hid hsz; clear hk0 hk1 hbw hsz
  subst hW
  go_enter Tryd.func8, Tryd.ntmps8
  go_wp2_with (go_at_call 12; first | (with_reducible refine HC1.out.mono ?_; rintro e w' ⟨rfl, rfl⟩) | (refine HC2.out.mono ?_; rintro e w' ⟨rfl, rfl⟩))
  go_at_call 17
  refine HC3.out.mono ?_
  rintro e w1 ⟨v', rfl, hown, hb1⟩
  replace HK0 := Lib.hid ((hb1.cell (p := ⟨w.heap.size, 0, none⟩) (by simp)).trans HK0.out)
  replace HK1 := Lib.hid ((hb1.cell (p := ⟨w.heap.size, 1, none⟩) (by simp)).trans HK1.out)
  have hs1 : w.heap.size + 2 ≤ w1.heap.size := by have := hb1.size; rw [HSZ.out] at this; exact this
  have hB1 : Below w.heap.size w w1 := HBW.out.trans (hb1.mono (by omega))
  obtain ⟨Ac, cc, rfl, hcc, hcm, hrd⟩ := own_form hown
  have HR := Lib.hid hrd; clear hrd hown hb1
  clear HC1 HC2 HC3 HBW HSZ hb0 hc0 hc1 hW0
  obtain ⟨C, hC⟩ : ∃ C, C = F ++ T := ⟨_, rfl⟩
  rw [← hC] at HCO
  replace HR : Hid (RdI w1 w1.heap.size Ac C) := Lib.hid (by rw [hC]; exact HR.out)
  have HCL : Hid (C.length = n3 + n4) := Lib.hid (by rw [hC, List.length_append, ll3.out, ll4.out])
  have HFT : Hid (C.all (insB m) = true → (∀ k, k < n3 → ∃ t : Nat, nth F k = t ∧ t < m) ∧ (∀ k, k < n4 → ∃ t : Nat, nth T k = t ∧ t < m)) := Lib.hid (by
    intro ha
    rw [hC, all_app, Bool.and_eq_true] at ha
    refine ⟨fun k hk => ?_, fun k hk => ?_⟩
    · have := List.all_eq_true.1 ha.1 _ (List.getElem_mem (show k < F.length by rw [ll3.out]; exact hk))
      rw [insB_iff, ← nth_get] at this
      exact ⟨(nth F k).toNat, by omega, by omega⟩
    · have := List.all_eq_true.1 ha.2 _ (List.getElem_mem (show k < T.length by rw [ll4.out]; exact hk))
      rw [insB_iff, ← nth_get] at this
      exact ⟨(nth T k).toNat, by omega, by omega⟩)
  clear hC
  go_wp2_with fail
  go_loopw [52] (fun i wr => ∃ k : Nat, k ≤ n3 + n4 ∧ i = .int .i64 k ∧ Hid ((C.take k).all (insB m) = true) ∧ wr = w1) (fun i _ => n3 + n4 - (intOf i).toNat)
  case atStart => exact ⟨0, Nat.zero_le _, rfl, rfl, rfl⟩
  case round =>
    as_aux_lemma =>
      obtain ⟨k, hk, rfl, HE, rfl⟩ := hrel
      by_cases hlt : k < n3 + n4
      · as_aux_lemma =>
          obtain ⟨b, off, rfl, hb, hc⟩ := RdI.at_ HR.out (by rw [HCL.out]; omega)
          have z1 := hc k (by rw [HCL.out]; exact hlt)
          clear hc
          obtain ⟨x, hx⟩ : ∃ x, x = nth C k := ⟨_, rfl⟩
          rw [← hx] at z1
          have HX := Lib.hid hx; clear hx
          by_cases g1 : x < 0
          · have q1 : decide (x < 0) = true := decide_eq_true g1
            have hbad := all_bad (f := insB m) (l := C) (k := k) (by rw [HCL.out]; exact hlt) (by rw [← HX.out]; cases hh : insB m x; rfl; rw [insB_iff] at hh; omega)
            have HBAD := Lib.hid hbad; clear hbad
            go_wp2
            go_ret
            exact ⟨ret_eq (by rw [HCO.out, HBAD.out]; rfl), hB1⟩
          have q1 : decide (x < 0) = false := decide_eq_false g1
          by_cases g2 : (m : Int) ≤ x
          · have q2 : decide ((m : Int) ≤ x) = true := decide_eq_true g2
            have hbad := all_bad (f := insB m) (l := C) (k := k) (by rw [HCL.out]; exact hlt) (by rw [← HX.out]; cases hh : insB m x; rfl; rw [insB_iff] at hh; omega)
            have HBAD := Lib.hid hbad; clear hbad
            go_wp2
            go_ret
            exact ⟨ret_eq (by rw [HCO.out, HBAD.out]; rfl), hB1⟩
          have q2 : decide ((m : Int) ≤ x) = false := decide_eq_false g2
          go_wp2
          go_roundw
          case rel => exact ⟨k + 1, by omega, by go_num, all_take (by rw [HCL.out]; exact hlt) HE.out (by rw [← HX.out, insB_iff]; omega), trivial⟩
          case measure => simp [intOf]; omega
      · as_aux_lemma =>
          have hall := all_end HCL.out hlt HE.out
          obtain ⟨hFs, hTs⟩ := HFT.out hall
          replace HCO : Hid (costA P L F T = edit (nthI P) (nthI L) F T) := Lib.hid (by rw [HCO.out, hall]; rfl)
          clear HE HR HCL HFT hall
          have HF := Lib.hid hFs; have HT := Lib.hid hTs; clear hFs hTs
          have hmk : ∀ w : World, (Instr.makeSlice 23 (.int .i64 ((n4 : Int) + 1)) (.int .i64 ((n4 : Int) + 1))).run Tryd.prog w = .ok (.slice (some ⟨w.heap.size, 0, none⟩) (n4 + 1) (n4 + 1)) (w.alloc (.cells (zs (.int .i64 0) (n4 + 1)) 3)) := fun w =>
            mk_row elI rfl .i64 .i64 (n4 + 1) _ (by omega) (by omega) (by omega) w
          go_wp2_with fail
          obtain ⟨G, hG⟩ : ∃ G, G = wr.heap.size := ⟨_, rfl⟩
          have hGB : G < (wr.alloc (.cells (zs (.int .i64 0) (n4 + 1)) 3)).heap.size := by rw [hG]; simp
          have hblk : Blk (wr.alloc (.cells (zs (.int .i64 0) (n4 + 1)) 3)) G 3 (iv (List.replicate (n4 + 1) 0)) := by
            rw [hG, ← iv_rep]; exact Blk.made _ _ _ _
          have hb2 : Below G wr (wr.alloc (.cells (zs (.int .i64 0) (n4 + 1)) 3)) := by
            rw [hG]; exact (Below.refl _ _).alloc (Nat.le_refl _) _
          rw [← hG]
          generalize wr.alloc (.cells (zs (.int .i64 0) (n4 + 1)) 3) = W2 at *
          have hw2 : Below w.heap.size w W2 := hB1.trans (hb2.mono (by omega))
          have hgw : w.heap.size + 2 ≤ G := by omega
          replace HK0 := Lib.hid ((hb2.cell (p := ⟨w.heap.size, 0, none⟩) (by simp; omega)).trans HK0.out)
          replace HK1 := Lib.hid ((hb2.cell (p := ⟨w.heap.size, 1, none⟩) (by simp; omega)).trans HK1.out)
          clear hb2 hB1 hs1 hG hcm
          go_loopw [70] (fun i wr => ∃ k : Nat, k ≤ n4 ∧ i = .int .i64 k ∧ Below G W2 wr ∧ G < wr.heap.size ∧ ∃ R : List Int, Hid (R.length = n4 + 1 ∧ Blk wr G 3 (iv R) ∧ (∀ j, j ≤ k → nth R j = ed P L F T 0 j))) (fun i _ => n4 - (intOf i).toNat)
          case atStart =>
            refine ⟨0, Nat.zero_le _, rfl, Below.refl _ _, hGB, _, List.length_replicate, hblk, fun j hj => ?_⟩
            obtain rfl : j = 0 := by omega
            rw [ed_00]; rfl
          case round =>
            as_aux_lemma =>
              obtain ⟨k, hk, rfl, hbr, hGr, R, HRR⟩ := hrel
              have hwr := hw2.trans (hbr.mono (by omega : w.heap.size ≤ G))
              by_cases hlt2 : k < n4
              · as_aux_lemma =>
                  obtain ⟨tn, htn, htm⟩ := HT.out k hlt2
                  obtain ⟨b4, off4, rfl, hb4, hc4⟩ := RdI.at_ (HH4.out.below (hwr.mono hB)) (by rw [ll4.out]; omega)
                  have z4 := hc4 k (by rw [ll4.out]; exact hlt2)
                  obtain ⟨b1, off1, rfl, hb1, hc1⟩ := RdI.at_ (HH1.out.below (hwr.mono hB)) (by rw [ll1.out]; omega)
                  have zp := hc1 tn (by rw [ll1.out]; omega)
                  have zk0 := (hbr.cell (p := ⟨w.heap.size, 0, none⟩) (by simp; omega)).trans HK0.out
                  have zr := HRR.out.2.1.icell (k := k) (by rw [HRR.out.1]; omega)
                  have zr1 := HRR.out.2.1.icell (k := k + 1) (by rw [HRR.out.1]; omega)
                  have zf := HRR.out.2.1.frozen (k + 1)
                  rw [HRR.out.2.2 k (Nat.le_refl _)] at zr
                  have hnext := @ed_0s P L F T k (by rw [ll4.out]; exact hlt2)
                  have hpb := HPB.out tn
                  rw [htn] at z4 hnext
                  have hpe : nthI P tn = nth P tn := by unfold nthI; simp
                  rw [hpe] at hpb hnext
                  have hxb := HBD.out 0 k
                  obtain ⟨p, hp⟩ : ∃ p, p = nth P tn := ⟨_, rfl⟩
                  rw [← hp] at zp hpb hnext
                  obtain ⟨x, hx⟩ : ∃ x, x = ed P L F T 0 k := ⟨_, rfl⟩
                  rw [← hx] at zr hnext hxb
                  obtain ⟨y, hy⟩ : ∃ y, y = nth R (k + 1) := ⟨_, rfl⟩
                  rw [← hy] at zr1
                  have HN := Lib.hid hnext; clear hnext hpe hc4 hc1 hp hx hy htn
                  obtain ⟨hp0, hp1⟩ := hpb
                  obtain ⟨hx0, hx1⟩ := hxb
                  go_wp2_with fail
                  go_region
                  go_wp2
                  go_roundw
                  case rel =>
                    refine ⟨k + 1, by omega, by go_num, (hbr.setCell (by simp) _).drew, by show G < (World.setCell _ _ _).heap.size; rw [setCell_size]; exact hGr, R.set (k + 1) (x + p), by rw [List.length_set]; exact HRR.out.1, (HRR.out.2.1.iset (k + 1) (x + p)).drew, fun j hj => ?_⟩
                    rw [nth_set (by rw [HRR.out.1]; omega)]
                    by_cases hjk : k + 1 = j
                    · rw [if_pos hjk, ← hjk, HN.out]
                    · rw [if_neg hjk]; exact HRR.out.2.2 j (by omega)
                  case measure => simp [intOf]; omega
              · as_aux_lemma =>
                  obtain rfl : n4 = k := by omega
                  go_wp2_with fail
                  have HR0 := HRR; clear HRR
                  go_loopw [10, 92] (fun v i wr => ∃ k : Nat, k ≤ n3 ∧ i = .int .i64 k ∧ Below G W2 wr ∧ ∃ g : Nat, ∃ R : List Int, v = .slice (some ⟨g, 0, none⟩) (n4 + 1) (n4 + 1) ∧ G ≤ g ∧ g < wr.heap.size ∧ Hid (R.length = n4 + 1 ∧ Blk wr g 3 (iv R) ∧ (∀ j, j ≤ n4 → nth R j = ed P L F T k j))) (fun _ i _ => n3 - (intOf i).toNat)
                  case atStart => exact ⟨0, Nat.zero_le _, rfl, hbr, G, R, rfl, Nat.le_refl _, hGr, HR0.out⟩
                  case round =>
                    as_aux_lemma =>
                      clear HR0 hlt2 hwr hbr hGr
                      obtain ⟨k, hk, rfl, hbr, g, R, rfl, hGg, hgr, HRR⟩ := hrel
                      have hwr := hw2.trans (hbr.mono (by omega : w.heap.size ≤ G))
                      by_cases hlt2 : k < n3
                      · as_aux_lemma =>
                          obtain ⟨fn, hfn, hfm⟩ := HF.out k hlt2
                          obtain ⟨b3, off3, rfl, hb3, hc3⟩ := RdI.at_ (HH3.out.below (hwr.mono hB)) (by rw [ll3.out]; omega)
                          have z3 := hc3 k (by rw [ll3.out]; exact hlt2)
                          obtain ⟨b2, off2, rfl, hb2, hc2⟩ := RdI.at_ (HH2.out.below (hwr.mono hB)) (by rw [ll2.out]; omega)
                          have zp := hc2 fn (by rw [ll2.out]; omega)
                          have zk1 := (hbr.cell (p := ⟨w.heap.size, 1, none⟩) (by simp; omega)).trans HK1.out
                          have zr := HRR.out.2.1.icell (k := 0) (by rw [HRR.out.1]; omega)
                          rw [HRR.out.2.2 0 (Nat.zero_le _)] at zr
                          have hnext := @ed_s0 P L F T k (by rw [ll3.out]; exact hlt2)
                          have hpb := HLB.out fn
                          rw [hfn] at z3 hnext
                          have hpe : nthI L fn = nth L fn := by unfold nthI; simp
                          have HPE := Lib.hid hpe
                          rw [hpe] at hpb hnext
                          have hxb := HBD.out k 0
                          obtain ⟨p, hp⟩ : ∃ p, p = nth L fn := ⟨_, rfl⟩
                          rw [← hp] at zp hpb hnext
                          have HPP := Lib.hid hp
                          obtain ⟨x, hx⟩ : ∃ x, x = ed P L F T k 0 := ⟨_, rfl⟩
                          rw [← hx] at zr hnext hxb
                          have HN := Lib.hid hnext; have HFN := Lib.hid hfn; clear hnext hpe hc3 hc2 hp hx hfn
                          obtain ⟨hp0, hp1⟩ := hpb
                          obtain ⟨hx0, hx1⟩ := hxb
                          obtain ⟨g2, hg2⟩ : ∃ g2, g2 = wr.heap.size := ⟨_, rfl⟩
                          have hg2B : g2 < (wr.alloc (.cells (zs (.int .i64 0) (n4 + 1)) 3)).heap.size := by rw [hg2]; simp
                          have hblk : Blk (wr.alloc (.cells (zs (.int .i64 0) (n4 + 1)) 3)) g2 3 (iv (List.replicate (n4 + 1) 0)) := by
                            rw [hg2, ← iv_rep]; exact Blk.made _ _ _ _
                          have hbx : Below g2 wr (wr.alloc (.cells (zs (.int .i64 0) (n4 + 1)) 3)) := by
                            rw [hg2]; exact (Below.refl _ _).alloc (Nat.le_refl _) _
                          go_wp2_with fail
                          rw [← hg2]
                          generalize wr.alloc (.cells (zs (.int .i64 0) (n4 + 1)) 3) = W3 at *
                          replace zr := (hbx.cell (p := ⟨g, 0, none⟩) (by simp; omega)).trans zr
                          have hb2g : b2 < g2 := by omega
                          replace zp := (hbx.cell (p := ⟨b2, off2 + fn, none⟩) hb2g).trans zp
                          replace zk1 := (hbx.cell (p := ⟨w.heap.size, 1, none⟩) (by simp; omega)).trans zk1
                          have z0 := hblk.icell (k := 0) (by simp)
                          have zf := hblk.frozen 0
                          have hgg : g < g2 := by omega
                          have hb3w : Below G W2 W3 := hbr.trans (hbx.mono (by omega))
                          have HR3 := Lib.hid (HRR.out.2.1.below hbx hgg)
                          have HBL := Lib.hid hblk; clear hblk hbx hg2 z3
                          go_region
                          go_wp2_with fail
                          have hb4w : Below G W2 (W3.setCell ⟨g2, 0, none⟩ (.int .i64 (x + p))).drew := (hb3w.setCell (by simp; omega) _).drew
                          have hB4 := Lib.hid ((HBL.out.iset 0 (x + p)).drew)
                          have hR4 := Lib.hid ((HR3.out.far (p := ⟨g2, 0, none⟩) (by simp; omega) (.int .i64 (x + p))).drew)
                          have hs4 : g2 < (W3.setCell ⟨g2, 0, none⟩ (.int .i64 (x + p))).drew.heap.size := by show _ < (World.setCell _ _ _).heap.size; rw [setCell_size]; exact hg2B
                          generalize (W3.setCell ⟨g2, 0, none⟩ (.int .i64 (x + p))).drew = W4 at *
                          clear HR3 HBL hb3w hg2B z0 zf zr zk1 zp hgr hbr hx0 hx1
                          go_loopw [112] (fun i wr => ∃ j : Nat, j ≤ n4 ∧ i = .int .i64 j ∧ Below g2 W4 wr ∧ g2 < wr.heap.size ∧ ∃ R2 : List Int, Hid (R2.length = n4 + 1 ∧ Blk wr g2 3 (iv R2) ∧ (∀ j', j' ≤ j → nth R2 j' = ed P L F T (k + 1) j'))) (fun i _ => n4 - (intOf i).toNat)
                          case atStart =>
                            refine ⟨0, Nat.zero_le _, rfl, Below.refl _ _, hs4, _, by rw [List.length_set, List.length_replicate], hB4.out, fun j' hj' => ?_⟩
                            obtain rfl : j' = 0 := by omega
                            rw [nth_set (by rw [List.length_replicate]; omega), if_pos rfl, HN.out]
                          case round =>
                            as_aux_lemma =>
                              obtain ⟨j, hj, rfl, hbj, hgj, R2, HR2⟩ := hrel
                              have hwj := (hw2.trans (hb4w.mono (by omega : w.heap.size ≤ G))).trans (hbj.mono (by omega : w.heap.size ≤ g2))
                              by_cases hlt3 : j < n4
                              · as_aux_lemma =>
                                  obtain ⟨tn, htn, htm⟩ := HT.out j hlt3
                                  obtain ⟨b4, off4, rfl, hb4, hc4⟩ := RdI.at_ (HH4.out.below (hwj.mono hB)) (by rw [ll4.out]; omega)
                                  have z4 := hc4 j (by rw [ll4.out]; exact hlt3)
                                  obtain ⟨b1, off1, rfl, hb1, hc1⟩ := RdI.at_ (HH1.out.below (hwj.mono hB)) (by rw [ll1.out]; omega)
                                  have zq := hc1 tn (by rw [ll1.out]; omega)
                                  obtain ⟨b2', off2', e2', hb2', hc2'⟩ := RdI.at_ (HH2.out.below (hwj.mono hB)) (by rw [ll2.out]; omega)
                                  obtain ⟨rfl, rfl⟩ : b2 = b2' ∧ off2 = off2' := by simpa using e2'
                                  have zp := hc2' fn (by rw [ll2.out]; omega)
                                  rw [← HPP.out] at zp
                                  have hbg : Below G W2 wr := hb4w.trans (hbj.mono (by omega))
                                  have zk0 := (hbg.cell (p := ⟨w.heap.size, 0, none⟩) (by simp; omega)).trans HK0.out
                                  have zk1 := (hbg.cell (p := ⟨w.heap.size, 1, none⟩) (by simp; omega)).trans HK1.out
                                  have HRW := Lib.hid (hR4.out.below hbj hgg)
                                  have za := HRW.out.icell (k := j + 1) (by rw [HRR.out.1]; omega)
                                  have zc := HRW.out.icell (k := j) (by rw [HRR.out.1]; omega)
                                  rw [HRR.out.2.2 _ (by omega)] at za zc
                                  have zb := HR2.out.2.1.icell (k := j) (by rw [HR2.out.1]; omega)
                                  have zd := HR2.out.2.1.icell (k := j + 1) (by rw [HR2.out.1]; omega)
                                  have zf := HR2.out.2.1.frozen (j + 1)
                                  rw [HR2.out.2.2 j (Nat.le_refl _)] at zb
                                  have hqb := HPB.out tn
                                  have hqe : nthI P tn = nth P tn := by unfold nthI; simp
                                  have hne : tn ≠ fn → ed P L F T (k + 1) (j + 1) = min (ed P L F T k (j + 1) + p) (ed P L F T (k + 1) j + nth P tn) := by
                                    intro hne
                                    have := @ed_ne P L F T k j (by rw [ll3.out]; exact hlt2) (by rw [ll4.out]; exact hlt3) (by rw [HFN.out, htn]; omega)
                                    rw [HFN.out, htn, HPE.out, hqe, ← HPP.out] at this
                                    exact this
                                  have hee : tn = fn → ed P L F T (k + 1) (j + 1) = min (min (ed P L F T k (j + 1) + p) (ed P L F T (k + 1) j + nth P tn)) (ed P L F T k j) := by
                                    intro hee
                                    have := @ed_eq P L F T k j (by rw [ll3.out]; exact hlt2) (by rw [ll4.out]; exact hlt3) (by rw [HFN.out, htn]; omega)
                                    rw [HFN.out, htn, HPE.out, hqe, ← HPP.out] at this
                                    exact this
                                  rw [hqe] at hqb
                                  rw [htn] at z4
                                  obtain ⟨a, ha⟩ : ∃ a, a = ed P L F T k (j + 1) := ⟨_, rfl⟩
                                  obtain ⟨b, hb⟩ : ∃ b, b = ed P L F T (k + 1) j := ⟨_, rfl⟩
                                  obtain ⟨c, hc⟩ : ∃ c, c = ed P L F T k j := ⟨_, rfl⟩
                                  obtain ⟨q, hq⟩ : ∃ q, q = nth P tn := ⟨_, rfl⟩
                                  obtain ⟨d, hd⟩ : ∃ d, d = nth R2 (j + 1) := ⟨_, rfl⟩
                                  have hab := HBD.out k (j + 1)
                                  have hbb := HBD.out (k + 1) j
                                  have hcb := HBD.out k j
                                  rw [← ha, ← hb, ← hq] at hne hee
                                  rw [← hc] at hee
                                  rw [← ha] at za hab
                                  rw [← hb] at zb hbb
                                  rw [← hc] at zc hcb
                                  rw [← hq] at zq hqb
                                  rw [← hd] at zd
                                  obtain ⟨m1, hm1⟩ : ∃ m1, m1 = min (a + p) (b + q) := ⟨_, rfl⟩
                                  have hmin1 := run_min Tryd.prog (a + p) (b + q) m1 hm1
                                  rw [← hm1] at hne hee
                                  obtain ⟨ha0, ha1⟩ := hab
                                  obtain ⟨hb0, hb1'⟩ := hbb
                                  obtain ⟨hc0, hc1'⟩ := hcb
                                  obtain ⟨hq0, hq1⟩ := hqb
                                  have hm0 : 0 ≤ m1 := by omega
                                  have hm2 : m1 ≤ 3000000 := by omega
                                  have HNE := Lib.hid hne; have HEE := Lib.hid hee
                                  clear hne hee hc4 hc1 hc2' hqe ha hb hc hq hd hm1 htn e2'
                                  by_cases htf : tn = fn
                                  · as_aux_lemma =>
                                      have HE := Lib.hid (HEE.out htf)
                                      have htb : ((tn : Int) == fn) = true := by simp; omega
                                      clear htf HNE HEE
                                      go_wp2_with fail
                                      go_region
                                      have hw5 : Below g2 W4 (wr.setCell ⟨g2, j + 1, none⟩ (.int .i64 m1)).drew := (hbj.setCell (by simp) _).drew
                                      have hB5 := Lib.hid ((HR2.out.2.1.iset (j + 1) m1).drew)
                                      have hs5 : g2 < (wr.setCell ⟨g2, j + 1, none⟩ (.int .i64 m1)).drew.heap.size := by show _ < (World.setCell _ _ _).heap.size; rw [setCell_size]; exact hgj
                                      have hL5 : Hid ((R2.set (j + 1) m1).length = n4 + 1) := Lib.hid (by rw [List.length_set]; exact HR2.out.1)
                                      have hN5 : Hid (∀ j', nth (R2.set (j + 1) m1) j' = if j + 1 = j' then m1 else nth R2 j') := Lib.hid (fun j' => nth_set (by rw [HR2.out.1]; omega))
                                      have zc5 : (wr.setCell ⟨g2, j + 1, none⟩ (.int .i64 m1)).drew.cell? ⟨g, j, none⟩ = some (.int .i64 c) :=
                                        (Below.cell (B := g2) (((Below.refl _ wr).setCell (p := ⟨g2, j + 1, none⟩) (by simp) _).drew) (p := ⟨g, j, none⟩) hgg).trans zc
                                      obtain ⟨W5, hW5⟩ : ∃ W5, W5 = (wr.setCell ⟨g2, j + 1, none⟩ (.int .i64 m1)).drew := ⟨_, rfl⟩
                                      rw [← hW5] at hw5 hB5 hs5 zc5 ⊢
                                      obtain ⟨R5, hR5⟩ : ∃ R5, R5 = R2.set (j + 1) m1 := ⟨_, rfl⟩
                                      rw [← hR5] at hB5 hL5 hN5
                                      clear hW5 hR5 za zb zc zd zf zq zp zk0 zk1 z4 hmin1 ha0 ha1 hb0 hb1' hc0 hc1' hq0 hq1 hm0 hm2 hp0 hp1
                                      have zd := hB5.out.icell (k := j + 1) (by rw [hL5.out]; omega)
                                      rw [hN5.out, if_pos rfl] at zd
                                      have zf := hB5.out.frozen (j + 1)
                                      obtain ⟨m2, hm2'⟩ : ∃ m2, m2 = min m1 c := ⟨_, rfl⟩
                                      have hmin2 := run_min Tryd.prog m1 c m2 hm2'
                                      have HM2 := Lib.hid hm2'; clear hm2'
                                      as_aux_lemma =>
                                        go_wp2_with fail
                                        go_region
                                        go_wp2
                                        go_roundw
                                        case rel =>
                                          refine ⟨j + 1, by omega, by go_num, (hw5.setCell (by simp) _).drew, by show _ < (World.setCell _ _ _).heap.size; rw [setCell_size]; exact hs5, R5.set (j + 1) m2, by rw [List.length_set]; exact hL5.out, (hB5.out.iset (j + 1) m2).drew, fun j' hj' => ?_⟩
                                          rw [nth_set (by rw [hL5.out]; omega)]
                                          by_cases hjk : j + 1 = j'
                                          · rw [if_pos hjk, ← hjk, HE.out, HM2.out]
                                          · rw [if_neg hjk, hN5.out, if_neg hjk]; exact HR2.out.2.2 j' (by omega)
                                        case measure => simp [intOf]; omega
                                  · as_aux_lemma =>
                                      have HE := Lib.hid (HNE.out htf)
                                      have htb : ((tn : Int) == fn) = false := by simp; omega
                                      clear htf HNE HEE
                                      go_wp2_with fail
                                      go_region
                                      go_wp2
                                      go_roundw
                                      case rel =>
                                        refine ⟨j + 1, by omega, by go_num, (hbj.setCell (by simp) _).drew, by show _ < (World.setCell _ _ _).heap.size; rw [setCell_size]; exact hgj, R2.set (j + 1) m1, by rw [List.length_set]; exact HR2.out.1, (HR2.out.2.1.iset (j + 1) m1).drew, fun j' hj' => ?_⟩
                                        rw [nth_set (by rw [HR2.out.1]; omega)]
                                        by_cases hjk : j + 1 = j'
                                        · rw [if_pos hjk, ← hjk, HE.out]
                                        · rw [if_neg hjk]; exact HR2.out.2.2 j' (by omega)
                                      case measure => simp [intOf]; omega
                              · obtain rfl : n4 = j := by omega
                                go_wp2
                                go_roundw
                                case rel =>
                                  exact ⟨k + 1, by omega, by go_num, hb4w.trans (hbj.mono (by omega)), g2, R2, rfl, by omega, hgj, HR2.out⟩
                                case measure => simp [intOf]; omega
                      · obtain rfl : n3 = k := by omega
                        have zr := HRR.out.2.1.icell (k := n4) (by rw [HRR.out.1]; omega)
                        rw [HRR.out.2.2 n4 (Nat.le_refl _)] at zr
                        have HE := Lib.hid (@ed_end P L F T n3 n4 ll3.out ll4.out)
                        go_wp2
                        go_ret
                        exact ⟨ret_eq (by rw [HCO.out, ← HE.out]; rfl), hwr⟩
end Go.Proofs.YtklhjaohnimmnaaDoor
