/- The contract of ref1.Step. · The document's full automaton: full. -/
import Derived.Test.YthikgdogfkjioaaGreatDoorQ14
import Derived.Test.YthikgdogfkjioaaGreatDoorQ24
import Derived.Test.YthikgdogfkjioaaGreatDoorQ15
namespace Go.Proofs.YthikgdogfkjioaaGreatDoor
open Go.RowKit
set_option linter.unusedVariables false
set_option linter.unusedSimpArgs false
set_option maxRecDepth 100000

theorem stp_at {ms : List Mv} {j : Nat} {m : Mv} {p : Int} (h : ms[j]? = some m) : stp (ms.drop j) p = if m.1 ≤ p ∧ p ≤ m.2.1 then m.2.2 else stp (ms.drop (j + 1)) p := by
  obtain ⟨hj, rfl⟩ := List.getElem?_eq_some_iff.1 h
  rw [List.drop_eq_getElem_cons hj, stp]

set_option maxHeartbeats 1000000 in
theorem r1Step_any (A : Option Addr) (n c k : Nat) (l : List St) (s : St) (p : Int) (w : World) (B : Nat) (h : (shL shState).rd w (Lo B) l [.slice A n c]) (hB : B ≤ w.heap.size) (hl : l.length = n) (hn : n ≤ 1000000000) (hs : l[k]? = some s) :
    Calls Tryz.prog 29 #[.agg #[.slice A n c], .int .i64 k, .int .i64 p] w fun e w' => e = .returned (.int .i64 (stp s.2 p)) ∧ Below w.heap.size w w' := by
  have hk : k < l.length := (List.getElem?_eq_some_iff.1 hs).1
  obtain ⟨b, off, rfl, hb, hst⟩ := states_at h (by omega)
  obtain ⟨g1, A', c', g2, g3, g4, g5⟩ := hst k s hs
  clear hst g1
  rw [hl] at hk
  obtain ⟨ms, hms⟩ : ∃ ms, ms = s.2 := ⟨_, rfl⟩
  obtain ⟨m, hmm⟩ : ∃ m, m = ms.length := ⟨_, rfl⟩
  rw [← hms] at g2 g3 g5
  rw [← hms]
  rw [← hmm] at g2 g3 g5
  have HM := Lib.hid hmm; clear hmm
  have HS := Lib.hid hs; clear hs
  have HMS := Lib.hid hms; clear hms
  have Hl := Lib.hid hl; clear hl
  unfold maxLen at g4
  have hb0 : Below w.heap.size w (w.alloc (.cells #[.slice (some ⟨b, off, none⟩) n c] 24)) := (Below.refl _ _).alloc (Nat.le_refl _) _
  have hW0 : (w.alloc (.cells #[.slice (some ⟨b, off, none⟩) n c] 24)).heap.size = w.heap.size + 1 := by simp
  have hc0 : (w.alloc (.cells #[.slice (some ⟨b, off, none⟩) n c] 24)).cell? ⟨w.heap.size, 0, none⟩ = some (.slice (some ⟨b, off, none⟩) n c) := by simp
  have hbB : b < w.heap.size := Nat.lt_of_lt_of_le hb hB
  go_enter Tryz.func29, Tryz.ntmps29
  go_wp2
  generalize w.alloc (.cells #[.slice (some ⟨b, off, none⟩) n c] 24) = W0 at *
  go_loopw [7] (fun i wr => ∃ j : Nat, j ≤ m ∧ i = .int .i64 j ∧ Hid (stp (ms.drop j) p = stp ms p) ∧ Below (w.heap.size + 1) W0 wr) (fun i _ => m - (intOf i).toNat)
  case atStart => exact ⟨0, Nat.zero_le _, rfl, rfl, Below.refl _ _⟩
  case round =>
    obtain ⟨j, hj, rfl, HO, hbr⟩ := hrel
    have hbn := hb0.trans (hbr.mono (Nat.le_succ _))
    have hcr := (hbr.cell (p := ⟨w.heap.size, 0, none⟩) (by simp)).trans hc0
    have q2 := (hbn.cell (p := ⟨b, off + k * 2 + 1, none⟩) hbB).trans g2
    have hzr := hbr.size
    have hz3 : w.heap.size < wr.heap.size := by omega
    clear hc0
    by_cases hjm : j < m
    · obtain ⟨mv, hmv⟩ : ∃ mv, ms[j]? = some mv := ⟨_, List.getElem?_eq_getElem (by rw [← HM.out]; exact hjm)⟩
      obtain ⟨b2, off2, rfl, hb2, hmt⟩ := moves_at (Sh.below g5 (hbn.mono hB)) (by rw [← HM.out]; omega)
      obtain ⟨m1, m2, m3⟩ := hmt j mv hmv
      have hstep := stp_at (p := p) hmv
      rw [HO.out] at hstep
      obtain ⟨x, y, z⟩ := mv
      clear hmt HO hmv
      dsimp only at m1 m2 m3 hstep
      have HST := Lib.hid hstep; clear hstep
      by_cases c1 : x ≤ p
      · have d1 : decide (x ≤ p) = true := decide_eq_true c1
        by_cases c2 : p ≤ y
        · have d2 : decide (p ≤ y) = true := decide_eq_true c2
          go_wp2
          go_ret
          exact ⟨ret_eq (by rw [HST.out, if_pos ⟨c1, c2⟩]; rfl), hbn.alloc (by omega) _⟩
        · have d2 : decide (p ≤ y) = false := decide_eq_false c2
          go_wp2
          go_roundw
          case rel => exact ⟨j + 1, by omega, by go_num, by show _ = _; rw [HST.out, if_neg (fun hh => c2 hh.2)], hbr.alloc (by omega) _⟩
          case measure => simp [intOf]; omega
      · have d1 : decide (x ≤ p) = false := decide_eq_false c1
        go_wp2
        go_roundw
        case rel => exact ⟨j + 1, by omega, by go_num, by show _ = _; rw [HST.out, if_neg (fun hh => c1 hh.1)], hbr.alloc (by omega) _⟩
        case measure => simp [intOf]; omega
    · have hx : stp ms p = -1 := by rw [← HO.out, List.drop_eq_nil_of_le (by rw [← HM.out]; omega)]; rfl
      have HX := Lib.hid hx; clear hx
      go_wp2
      go_ret
      exact ⟨ret_eq (by rw [HX.out]; rfl), hbn⟩

end Go.Proofs.YthikgdogfkjioaaGreatDoor
namespace Go.Proofs.YthikgdogfkjioaaGreatDoor
open Go.RowKit BigFrame
set_option linter.unusedVariables false
set_option linter.unusedSimpArgs false
set_option maxRecDepth 100000
set_option pp.deepTerms true
set_option pp.maxSteps 1000000

def fulRow (l : List St) (C : List (List Rg)) (i : Nat) : List Int := (List.range C.length).map fun c => (dlt l i (repOf C c) : Int)
def fulR (l : List St) : List Int := (List.range (l.length + 1)).map (rul l)
def fulM (l : List St) (C : List (List Rg)) : List (List Int) := (List.range (l.length + 1)).map (fulRow l C)
theorem map_range_snoc {α : Type} (f : Nat → α) (k : Nat) : (List.range (k + 1)).map f = (List.range k).map f ++ [f k] := by rw [List.range_succ, List.map_append]; rfl
theorem nth_map_range (f : Nat → Int) {n k : Nat} (h : k < n) : nth ((List.range n).map f) k = f k := by unfold nth; simp [List.getD, h]
theorem nthL_map_range (f : Nat → List Int) {n k : Nat} (h : k < n) : nthL ((List.range n).map f) k = f k := by unfold nthL; simp [List.getD, h]
theorem full_FuP {l : List St} (hok : okA l = true) (C : List (List Rg)) : FuP C.length (l.length + 1) (rul l) (fun s c => dlt l s (repOf C c)) (fulR l) (fulM l C) := by
  refine ⟨by simp [fulR], by simp [fulM], fun s hs => nth_map_range _ hs, fun s hs => ?_, fun s c hs hc => Nat.lt_succ_of_le (dlt_le hok _ _)⟩
  unfold fulM
  rw [nthL_map_range _ hs]
  exact ⟨by simp [fulRow], fun c hc => nth_map_range _ hc⟩

set_option maxHeartbeats 8000000 in
theorem full_any (A Ac : Option Addr) (n c K cc : Nat) (l : List St) (C : List (List Rg)) (w : World) (B : Nat) (hB : B ≤ w.heap.size) (h : (shL shState).rd w (Lo B) l [.slice A n c]) (hok : okA l = true) (hl : l.length = n) (hn : n ≤ 1000)
    (hC : RdS w B Ac C) (hK : C.length = K) (hK1 : K ≤ cc) (hKc : cc ≤ maxLen) (hKn : K ≤ 1000) (hne : ∀ c ∈ C, c ≠ []) :
    Calls Tryz.prog 17 #[.agg #[.slice A n c], .slice Ac K cc] w fun e w' => ∃ Ar Am cr cm, e = .returned (.agg #[.slice Ac K cc, .slice Ar (n + 1) cr, .slice Am (n + 1) cm]) ∧ FuR w' w'.heap.size C (fulR l) (fulM l C) Ac Ar Am cc cr cm ∧ Below w.heap.size w w' := by
  have Hl := Lib.hid hl; have H := Lib.hid h; have HC := Lib.hid hC; have HK := Lib.hid hK; have HNE := Lib.hid hne; have HOK := Lib.hid hok
  unfold maxLen at hKc
  clear hl h hC hK hne hok
  obtain ⟨W0, hW0⟩ : ∃ W0, W0 = ((w.alloc (.cells #[.slice A n c] 24)).alloc (.cells #[.slice none 0 0, .slice none 0 0, .slice none 0 0] 48)).alloc (.cells #[.slice Ac K cc, .slice none 0 0, .slice none 0 0] 48) := ⟨_, rfl⟩
  obtain ⟨g, hg⟩ : ∃ g, w.heap.size = g := ⟨_, rfl⟩
  have hs0 : W0.heap.size = g + 1 + 1 + 1 := by rw [hW0, ← hg]; simp
  have hb0 : Below g w W0 := by rw [hW0, ← hg]; exact (((Below.refl _ _).alloc (Nat.le_refl _) _).alloc (by simp) _).alloc (by simp only [World.size_alloc]; omega) _
  have hc0 : W0.cell? ⟨g, 0, none⟩ = some (.slice A n c) := by
    rw [hW0, ← hg]
    exact (((Blk.new w 24 [.slice A n c]).alloc _).alloc _).cell (i := 0) rfl
  have hkr : Blk W0 (g + 1) 48 [.slice none 0 0, .slice none 0 0, .slice none 0 0] := by
    have := Blk.new (w.alloc (.cells #[.slice A n c] 24)) 48 [.slice none 0 0, .slice none 0 0, .slice none 0 0]
    rw [show (w.alloc (.cells #[.slice A n c] 24)).heap.size = g + 1 by rw [← hg]; simp] at this
    rw [hW0]; exact this.alloc _
  have hk2 : Blk W0 (g + 1 + 1) 48 [.slice Ac K cc, .slice none 0 0, .slice none 0 0] := by
    have := Blk.new ((w.alloc (.cells #[.slice A n c] 24)).alloc (.cells #[.slice none 0 0, .slice none 0 0, .slice none 0 0] 48)) 48 [.slice Ac K cc, .slice none 0 0, .slice none 0 0]
    rw [show ((w.alloc (.cells #[.slice A n c] 24)).alloc (.cells #[.slice none 0 0, .slice none 0 0, .slice none 0 0] 48)).heap.size = g + 1 + 1 by rw [← hg]; simp] at this
    rw [hW0]; exact this
  have HB0 := Lib.hid hb0; have HK2 := Lib.hid hk2; have HG := Lib.hid hg; have HS0 := Lib.hid hs0; have HKR := Lib.hid hkr
  clear hb0 hk2 hs0 hkr
  go_enter Tryz.func17, Tryz.ntmps17
  go_wp2_with fail
  rw [← hW0]
  clear hW0
  have hgB : B ≤ g := by omega
  clear hg
  go_loopw [7] (fun i wr => ∃ (k : Nat) (vr vm : Value) (vs : List Value), k ≤ n + 1 ∧ i = .int .i64 (k : Int) ∧ Hid (Blk wr (g + 1 + 1) 48 [.slice Ac K cc, vr, vm]) ∧ Hid (wr.ownsRow (g + 3) 3 1 vr k (iv ((List.range k).map (rul l)))) ∧ Hid (OwM wr (g + 3) vm vs ((List.range k).map (fulRow l C))) ∧ Hid (∀ (j : Nat) (u : Value), vs[j]? = some u → u.ownBlock = none ∨ u.ownBlock ≠ vr.ownBlock) ∧ Hid (Below (g + 2) W0 wr)) (fun i _ => n + 1 - (intOf i).toNat)
  case atStart => exact ⟨0, .slice none 0 0, .slice none 0 0, [], Nat.zero_le _, rfl, HK2.out, World.ownsRow_nil _ _ _ _, OwM.nil _ _, fun j u h => (by simp at h), Below.refl _ _⟩
  case round =>
    as_aux_lemma =>
      clear HK2
      obtain ⟨k, vr, vm, vs, hk, rfl, HK2, HVR, HVM, HAP, HB⟩ := hrel
      have hzr := HB.out.size
      have hz0 := HS0.out
      have zg0 := (HB.out.cell (p := ⟨g, 0, none⟩) (by show g < g + 2; omega)).trans hc0
      have zf0 := HK2.out.cell (i := 0) rfl
      have zf1 := HK2.out.cell (i := 1) rfl
      have zf2 := HK2.out.cell (i := 2) rfl
      have hlt2 := HK2.out.lt
      have hww : Below g w wr := HB0.out.trans (HB.out.mono (by omega))
      have HRC := Lib.hid (HC.out.below (hww.mono hgB))
      have HST := Lib.hid (Sh.below H.out (hww.mono hgB))
      clear hww
      by_cases hlt : k < n + 1
      · as_aux_lemma =>
          have d1 : decide (k ≤ n) = true := decide_eq_true (by omega)
          obtain ⟨wo, rfl⟩ : ∃ wo : World, wo = wr := ⟨_, rfl⟩
          go_wp2_with fail
          go_loopw [8, 9] (fun v i wr => ∃ (j : Nat), j ≤ K ∧ i = .int .i64 (j : Int) ∧ Hid (wr.ownsRow wo.heap.size 3 1 v j (iv ((List.range j).map fun c => (dlt l k (repOf C c) : Int)))) ∧ Hid (Below wo.heap.size wo wr)) (fun _ i _ => K - (intOf i).toNat)
          case atStart => exact ⟨0, Nat.zero_le _, rfl, World.ownsRow_nil _ _ _ _, Below.refl _ _⟩
          case round =>
            as_aux_lemma =>
              obtain ⟨j, hj, rfl, HRW, HBJ⟩ := hrel
              have hzj := HBJ.out.size
              have zg0 := (HBJ.out.cell (p := ⟨g, 0, none⟩) (by show g < wo.heap.size; omega)).trans zg0
              have zf0 := (HBJ.out.cell (p := ⟨g + 1 + 1, 0, none⟩) hlt2).trans zf0
              have zf1 := (HBJ.out.cell (p := ⟨g + 1 + 1, 1, none⟩) hlt2).trans zf1
              have zf2 := (HBJ.out.cell (p := ⟨g + 1 + 1, 2, none⟩) hlt2).trans zf2
              by_cases hjK : j < K
              · as_aux_lemma =>
                  have dj : decide ((j : Int) < (K : Int)) = true := decide_eq_true (by omega)
                  have hjc : j < C.length := by rw [HK.out]; exact hjK
                  have hwo : B ≤ wo.heap.size := by omega
                  obtain ⟨cb, co, rfl, hcb, hcc⟩ := (HRC.out.below (HBJ.out.mono hwo)) (by omega)
                  obtain ⟨A3, c3, y1, q1, q2, hrd⟩ := hcc j hjc
                  have hne : 0 < (nthS C j).length := List.length_pos_iff.2 (HNE.out _ (nthS_mem hjc))
                  obtain ⟨rb, ro, rfl, hrb, hrc⟩ := hrd.at_ hne
                  have y2 := (hrc 0 hne).1
                  have hrep : repOf C j = (nthR (nthS C j) 0).1 := by
                    unfold repOf nthS fstR nthR
                    cases C.getD j [] <;> rfl
                  have HSN : Hid (iv ((List.range (j + 1)).map fun c => (dlt l k (repOf C c) : Int)) = iv ((List.range j).map fun c => (dlt l k (repOf C c) : Int)) ++ [.int .i64 (dlt l k (repOf C j) : Int)]) := Lib.hid (by rw [map_range_snoc]; unfold iv; rw [List.map_append]; rfl)
                  rw [Nat.zero_mul, Nat.add_zero] at y2
                  rw [← hrep] at y2
                  generalize repOf C j = pt at *
                  generalize (nthS C j).length = m3 at *
                  have hbB : cb < wr.heap.size := by omega
                  have hrB : rb < wr.heap.size := by omega
                  unfold maxLen at q2
                  have HSTJ := Lib.hid (Sh.below HST.out (HBJ.out.mono hwo))
                  clear hcc hrc hrd hrep HRC HNE
                  by_cases hkn : k < n
                  · have d2 : decide ((k : Int) < (n : Int)) = true := decide_eq_true (by omega)
                    have hkl : k < l.length := by rw [Hl.out]; exact hkn
                    have hs := List.getElem?_eq_getElem hkl
                    have hstep := fun X : WB wr.heap.size wr => r1Step_any A n c k l _ pt X.val B (Sh.below HSTJ.out (X.bel.mono (by omega))) (by have := X.bel.size; omega) Hl.out (by omega) hs
                    have hdl : dlt l k pt = if 0 ≤ stp (l[k]).2 pt then (stp (l[k]).2 pt).toNat else l.length := by unfold dlt; rw [hs]
                    generalize stp (l[k]).2 pt = st at *
                    have HSP := Lib.hid hstep
                    clear hstep hs
                    have x0 := fun X : WB wr.heap.size wr => (X.bel.cell (p := ⟨g, 0, none⟩) (by show g < wr.heap.size; omega)).trans zg0
                    have x1 := fun X : WB wr.heap.size wr => (X.bel.cell (p := ⟨cb, co + j, none⟩) hbB).trans y1
                    have x2 := fun X : WB wr.heap.size wr => (X.bel.cell (p := ⟨rb, ro, none⟩) hrB).trans y2
                    have hst2 := okA_len HOK.out
                    by_cases hst : 0 ≤ st
                    · as_aux_lemma =>
                        have d3 : decide (0 ≤ st) = true := decide_eq_true hst
                        have HDL : Hid ((dlt l k pt : Int) = st) := Lib.hid (by rw [hdl, if_pos hst]; omega)
                        clear hdl
                        go_wp2_with fail
                        refine wp_region_cls (B := wr.heap.size) (w0 := wr) (by kernel_rfl) (by kernel_rfl) (Below.refl _ _) ?_
                        repeat (first | go_big_quiet_skip | (go_big_quiet_want; go_big_quiet_op; go_big_quiet_on))
                        go_big_quiet_want
                        go_big_quiet_op
                        refine ⟨.int .i64 st, fun X => X.call (Nat.le_refl _) (HSP.out X), ?_⟩
                        go_big_quiet_on
                        repeat (first | go_big_quiet_skip | (go_big_quiet_want; go_big_quiet_op; go_big_quiet_on))
                        refine wpQuiet_nil ?_
                        intro X
                        obtain ⟨w2, hw2⟩ : ∃ w2, w2 = X.val := ⟨_, rfl⟩
                        have hb2 := X.bel
                        rw [← hw2] at hb2 ⊢
                        clear hw2 X
                        have HRW2 := Lib.hid (own_ext HRW.out hb2)
                        have HB2 := Lib.hid (HBJ.out.trans (hb2.mono hzj))
                        have hz2 := hb2.size
                        clear HRW HBJ hb2
                        go_wp2_with (at_builtin; refine wpList_app elInts rfl (.tmp 46) (.tmp 48) rfl wo.heap.size _ j 1 _ [.int .i64 st] rfl HRW2.out rfl rfl (by simp [Value.oneCell']) (by omega) (by omega) HB2.out.size ?_; intro v5 w5 hown5 hg5 hat5; have HR5 := Lib.hid hown5; have HB5 := Lib.hid (HB2.out.grown hg5 HB2.out.size (fun k e => own_base HRW2.out k e)); clear hown5 hg5 hat5)
                        go_roundw
                        case rel =>
                          exact ⟨j + 1, by omega, by go_num, Lib.hid (by rw [HSN.out, HDL.out]; exact HR5.out), HB5⟩
                        case measure => simp [intOf]; omega
                    · as_aux_lemma =>
                        have d3 : decide (0 ≤ st) = false := decide_eq_false hst
                        have HDL : Hid ((dlt l k pt : Int) = (n : Int)) := Lib.hid (by rw [hdl, if_neg hst, Hl.out])
                        clear hdl
                        go_wp2_with fail
                        refine wp_region_cls (B := wr.heap.size) (w0 := wr) (by kernel_rfl) (by kernel_rfl) (Below.refl _ _) ?_
                        repeat (first | go_big_quiet_skip | (go_big_quiet_want; go_big_quiet_op; go_big_quiet_on))
                        go_big_quiet_want
                        go_big_quiet_op
                        refine ⟨.int .i64 st, fun X => X.call (Nat.le_refl _) (HSP.out X), ?_⟩
                        go_big_quiet_on
                        repeat (first | go_big_quiet_skip | (go_big_quiet_want; go_big_quiet_op; go_big_quiet_on))
                        refine wpQuiet_nil ?_
                        intro X
                        obtain ⟨w2, hw2⟩ : ∃ w2, w2 = X.val := ⟨_, rfl⟩
                        have hb2 := X.bel
                        rw [← hw2] at hb2 ⊢
                        clear hw2 X
                        have HRW2 := Lib.hid (own_ext HRW.out hb2)
                        have HB2 := Lib.hid (HBJ.out.trans (hb2.mono hzj))
                        have hz2 := hb2.size
                        clear HRW HBJ hb2
                        go_wp2_with (at_builtin; refine wpList_app elInts rfl (.tmp 46) (.tmp 48) rfl wo.heap.size _ j 1 _ [.int .i64 (n : Int)] rfl HRW2.out rfl rfl (by simp [Value.oneCell']) (by omega) (by omega) HB2.out.size ?_; intro v5 w5 hown5 hg5 hat5; have HR5 := Lib.hid hown5; have HB5 := Lib.hid (HB2.out.grown hg5 HB2.out.size (fun k e => own_base HRW2.out k e)); clear hown5 hg5 hat5)
                        go_roundw
                        case rel =>
                          exact ⟨j + 1, by omega, by go_num, Lib.hid (by rw [HSN.out, HDL.out]; exact HR5.out), HB5⟩
                        case measure => simp [intOf]; omega
                  · as_aux_lemma =>
                      have d2 : decide ((k : Int) < (n : Int)) = false := decide_eq_false (by omega)
                      have HDL : Hid ((dlt l k pt : Int) = (n : Int)) := Lib.hid (by unfold dlt; rw [List.getElem?_eq_none (by rw [Hl.out]; omega)]; simp [Hl.out])
                      have hb2 : Below wr.heap.size wr wr := Below.refl _ _
                      have HRW2 := Lib.hid (own_ext HRW.out hb2)
                      have HB2 := Lib.hid (HBJ.out.trans (hb2.mono hzj))
                      have hz2 := hb2.size
                      clear HRW HBJ hb2
                      go_wp2_with (at_builtin; refine wpList_app elInts rfl (.tmp 46) (.tmp 48) rfl wo.heap.size _ j 1 _ [.int .i64 (n : Int)] rfl HRW2.out rfl rfl (by simp [Value.oneCell']) (by omega) (by omega) HB2.out.size ?_; intro v5 w5 hown5 hg5 hat5; have HR5 := Lib.hid hown5; have HB5 := Lib.hid (HB2.out.grown hg5 HB2.out.size (fun k e => own_base HRW2.out k e)); clear hown5 hg5 hat5)
                      go_roundw
                      case rel =>
                        exact ⟨j + 1, by omega, by go_num, Lib.hid (by rw [HSN.out, HDL.out]; exact HR5.out), HB5⟩
                      case measure => simp [intOf]; omega
              · as_aux_lemma =>
                  have dj : decide ((j : Int) < (K : Int)) = false := decide_eq_false (by omega)
                  have e : j = K := by omega
                  subst e
                  have hrow := HRW.out
                  rw [show ((List.range j).map fun c => (dlt l k (repOf C c) : Int)) = fulRow l C k by unfold fulRow; rw [HK.out]] at hrow
                  have HFL : Hid ((fulRow l C k).length = j) := Lib.hid (by unfold fulRow; simp [HK.out])
                  have hvmx := OwM.ext HVM.out HBJ.out
                  have hvrx := own_ext HVR.out HBJ.out
                  have hkx := HK2.out.below' HBJ.out
                  have hbx := HB.out.trans (HBJ.out.mono (by omega))
                  obtain ⟨Aw, cw, rfl, hw1, hw2⟩ := own_len hrow
                  have HROW := Lib.hid hrow; have HVMX := Lib.hid hvmx; have HVRX := Lib.hid hvrx; have HKX := Lib.hid hkx; have HBX := Lib.hid hbx
                  have HLR : Hid (((List.range k).map (fulRow l C)).length = k) := Lib.hid (by simp)
                  have HVMR : Hid (wr.ownsRow (g + 3) 34 1 vm k vs) := Lib.hid (by have := HVMX.out.row; rw [HLR.out] at this; exact this)
                  have HFR : Hid (∀ u : Value, u = .slice Aw j cw → u.ownBlock = none ∨ u.ownBlock ≠ vr.ownBlock) := Lib.hid (fun u e => by
                    cases hob : u.ownBlock with
                    | none => exact .inl rfl
                    | some q =>
                      refine .inr fun e2 => ?_
                      have h1 := (hrow.lt q (by rw [← e]; exact hob)).1
                      have h2 := (HVR.out.lt q e2.symm).2
                      omega)
                  have HSNM : Hid ((List.range (k + 1)).map (fulRow l C) = (List.range k).map (fulRow l C) ++ [fulRow l C k]) := Lib.hid (map_range_snoc _ _)
                  have HSNR : Hid (iv ((List.range (k + 1)).map (rul l)) = iv ((List.range k).map (rul l)) ++ [.int .i64 (rul l k)]) := Lib.hid (by rw [map_range_snoc]; unfold iv; rw [List.map_append]; rfl)
                  clear hrow hvmx hvrx hkx hbx HVM HVR HK2 HB HRW HBJ
                  have hgr : g + 3 ≤ wr.heap.size := by omega
                  by_cases hkn : k < n
                  · as_aux_lemma =>
                      have d2 : decide ((k : Int) < (n : Int)) = true := decide_eq_true (by omega)
                      have hkl : k < l.length := by rw [Hl.out]; exact hkn
                      obtain ⟨sb, so, rfl, hsb, hst⟩ := states_at H.out (by omega)
                      obtain ⟨u1, -⟩ := hst k _ (List.getElem?_eq_getElem hkl)
                      have HRU : Hid (rul l k = l[k].1) := Lib.hid (by unfold rul; rw [List.getElem?_eq_getElem hkl])
                      clear hst
                      generalize l[k].1 = ru at *
                      have hsg : sb < g := Nat.lt_of_lt_of_le hsb hgB
                      have u1 := (HB0.out.cell (p := ⟨sb, so + k * 2, none⟩) hsg).trans u1
                      go_wp2_with (first | (at_builtin; refine wpList_app elRows rfl (.tmp 51) (.tmp 53) rfl (g + 3) vm k 1 vs [.slice Aw j cw] rfl HVMR.out rfl rfl (by simp [Value.oneCell']) (by omega) (by omega) (by omega) ?_; go_must (intro v5 w5 hown5 hg5 hat5); go_must (have hv5 := own_len hown5); go_must (have HM5 := Lib.hid ((HVMX.out.push hg5 (by rw [HFL.out]; exact ownsRow_base HROW.out (show g + 3 ≤ wo.heap.size by omega)) (by rw [HLR.out]; exact hown5)).set_ (p := ⟨g + 1 + 1, 2, none⟩) (x := v5) (show g + 1 + 1 < g + 3 by omega))); go_must (have hk5 := HKX.out.grown hg5 (fun e => by have := (HVMX.out.row.lt _ e.symm).1; omega)); go_must (have yk0 := hk5.cell (i := 2) rfl); go_must (have yf0 := hk5.frozen 2); go_must (have hk5 := hk5.set_ 2 v5); go_must (have yk1 := hk5.cell (i := 1) rfl); go_must (have yf1 := hk5.frozen 1); go_must (have HK5 := Lib.hid hk5); go_must (have hb5 := (HBX.out.grown hg5 (by omega) (fun q e => by have := (HVMX.out.row.lt _ e).1; omega)).setCell (p := ⟨g + 1 + 1, 2, none⟩) (show g + 2 ≤ g + 1 + 1 by omega) v5); go_must (have HB5 := Lib.hid hb5); go_must (have yg := (hb5.cell (p := ⟨g, 0, none⟩) (show g < g + 2 by omega)).trans hc0); go_must (have ys := (hb5.cell (p := ⟨sb, so + k * 2, none⟩) (show sb < g + 2 by omega)).trans u1); go_must (have hr5 := own_set (p := ⟨g + 1 + 1, 2, none⟩) (x := v5) (HVRX.out.kept hg5 (own_ne HVRX.out HVMX.out.row (by decide))) (show g + 1 + 1 < g + 3 by omega)); go_must (have HR5 := Lib.hid hr5); go_must (have hs5 : wr.heap.size ≤ (w5.setCell ⟨g + 1 + 1, 2, none⟩ v5).heap.size := by rw [setCell_size]; exact hg5.size); go_must (have HSZ5 : Hid ((w5.setCell ⟨g + 1 + 1, 2, none⟩ v5).heap.size = w5.heap.size) := Lib.hid (setCell_size _ _ _)); go_must (obtain ⟨A5, c5, rfl, -, -⟩ := hv5); go_must (clear hown5 hg5 hat5 hk5 hb5 hr5)) | (at_builtin; go_must (refine wpList_app elInts rfl (.tmp 66) (.tmp 68) rfl (g + 3) vr k 1 (iv ((List.range k).map (rul l))) [.int .i64 ru] rfl HR5.out (by rw [HSZ5.out]; rfl) rfl (by simp [Value.oneCell']) (by omega) (by omega) (by omega) ?_); go_must (intro v6 w6 hown6 hg6 hat6); go_must (have hv6 := own_len hown6); go_must (have hap := all_snoc HAP.out (HFR.out _ rfl)); go_must (have hm6 := HM5.out.grown hg6 (own_ne HM5.out.row HR5.out (by decide)) hap); go_must (have HM6 := Lib.hid (hm6.set_ (p := ⟨g + 1 + 1, 1, none⟩) (x := v6) (show g + 1 + 1 < g + 3 by omega))); go_must (have hk6 := HK5.out.grown hg6 (fun e => by have := (HR5.out.lt _ e.symm).1; omega)); go_must (have yk6 := hk6.cell (i := 1) rfl); go_must (have yf6 := hk6.frozen 1); go_must (have HK6 := Lib.hid (hk6.set_ 1 v6)); go_must (have HB6 := Lib.hid ((HB5.out.grown hg6 (by omega) (fun q e => by have := (HR5.out.lt _ e).1; omega)).setCell (p := ⟨g + 1 + 1, 1, none⟩) (show g + 2 ≤ g + 1 + 1 by omega) v6)); go_must (have HO6 := Lib.hid (own_set (p := ⟨g + 1 + 1, 1, none⟩) (x := v6) hown6 (show g + 1 + 1 < g + 3 by omega))); go_must (have HAP6 := Lib.hid (ap_next hap (fun i u q hu ho => ((HM5.out.cl i u hu).lt q ho).2) hat6)); go_must (obtain ⟨A6, c6, rfl, -, -⟩ := hv6); go_must (clear hown6 hg6 hat6 hk6 hm6 hap)))
                      go_roundw
                      case rel => exact ⟨k + 1, _, _, _, by omega, by go_num, HK6, Lib.hid (by rw [HSNR.out, HRU.out]; exact HO6.out), Lib.hid (by rw [HSNM.out]; exact HM6.out), HAP6, HB6⟩
                      case measure => simp [intOf]; omega
                  · as_aux_lemma =>
                      have d2 : decide ((k : Int) < (n : Int)) = false := decide_eq_false (by omega)
                      have HRU : Hid (rul l k = -1) := Lib.hid (by unfold rul; rw [List.getElem?_eq_none (by rw [Hl.out]; omega)])
                      go_wp2_with (first | (at_builtin; refine wpList_app elRows rfl (.tmp 51) (.tmp 53) rfl (g + 3) vm k 1 vs [.slice Aw j cw] rfl HVMR.out rfl rfl (by simp [Value.oneCell']) (by omega) (by omega) (by omega) ?_; go_must (intro v5 w5 hown5 hg5 hat5); go_must (have hv5 := own_len hown5); go_must (have HM5 := Lib.hid ((HVMX.out.push hg5 (by rw [HFL.out]; exact ownsRow_base HROW.out (show g + 3 ≤ wo.heap.size by omega)) (by rw [HLR.out]; exact hown5)).set_ (p := ⟨g + 1 + 1, 2, none⟩) (x := v5) (show g + 1 + 1 < g + 3 by omega))); go_must (have hk5 := HKX.out.grown hg5 (fun e => by have := (HVMX.out.row.lt _ e.symm).1; omega)); go_must (have yk0 := hk5.cell (i := 2) rfl); go_must (have yf0 := hk5.frozen 2); go_must (have hk5 := hk5.set_ 2 v5); go_must (have yk1 := hk5.cell (i := 1) rfl); go_must (have yf1 := hk5.frozen 1); go_must (have HK5 := Lib.hid hk5); go_must (have hb5 := (HBX.out.grown hg5 (by omega) (fun q e => by have := (HVMX.out.row.lt _ e).1; omega)).setCell (p := ⟨g + 1 + 1, 2, none⟩) (show g + 2 ≤ g + 1 + 1 by omega) v5); go_must (have HB5 := Lib.hid hb5); go_must (have yg := (hb5.cell (p := ⟨g, 0, none⟩) (show g < g + 2 by omega)).trans hc0); go_must (have hr5 := own_set (p := ⟨g + 1 + 1, 2, none⟩) (x := v5) (HVRX.out.kept hg5 (own_ne HVRX.out HVMX.out.row (by decide))) (show g + 1 + 1 < g + 3 by omega)); go_must (have HR5 := Lib.hid hr5); go_must (have hs5 : wr.heap.size ≤ (w5.setCell ⟨g + 1 + 1, 2, none⟩ v5).heap.size := by rw [setCell_size]; exact hg5.size); go_must (have HSZ5 : Hid ((w5.setCell ⟨g + 1 + 1, 2, none⟩ v5).heap.size = w5.heap.size) := Lib.hid (setCell_size _ _ _)); go_must (obtain ⟨A5, c5, rfl, -, -⟩ := hv5); go_must (clear hown5 hg5 hat5 hk5 hb5 hr5)) | (at_builtin; go_must (refine wpList_app elInts rfl (.tmp 66) (.tmp 68) rfl (g + 3) vr k 1 (iv ((List.range k).map (rul l))) [.int .i64 (-1)] rfl HR5.out (by rw [HSZ5.out]; rfl) rfl (by simp [Value.oneCell']) (by omega) (by omega) (by omega) ?_); go_must (intro v6 w6 hown6 hg6 hat6); go_must (have hv6 := own_len hown6); go_must (have hap := all_snoc HAP.out (HFR.out _ rfl)); go_must (have hm6 := HM5.out.grown hg6 (own_ne HM5.out.row HR5.out (by decide)) hap); go_must (have HM6 := Lib.hid (hm6.set_ (p := ⟨g + 1 + 1, 1, none⟩) (x := v6) (show g + 1 + 1 < g + 3 by omega))); go_must (have hk6 := HK5.out.grown hg6 (fun e => by have := (HR5.out.lt _ e.symm).1; omega)); go_must (have yk6 := hk6.cell (i := 1) rfl); go_must (have yf6 := hk6.frozen 1); go_must (have HK6 := Lib.hid (hk6.set_ 1 v6)); go_must (have HB6 := Lib.hid ((HB5.out.grown hg6 (by omega) (fun q e => by have := (HR5.out.lt _ e).1; omega)).setCell (p := ⟨g + 1 + 1, 1, none⟩) (show g + 2 ≤ g + 1 + 1 by omega) v6)); go_must (have HO6 := Lib.hid (own_set (p := ⟨g + 1 + 1, 1, none⟩) (x := v6) hown6 (show g + 1 + 1 < g + 3 by omega))); go_must (have HAP6 := Lib.hid (ap_next hap (fun i u q hu ho => ((HM5.out.cl i u hu).lt q ho).2) hat6)); go_must (obtain ⟨A6, c6, rfl, -, -⟩ := hv6); go_must (clear hown6 hg6 hat6 hk6 hm6 hap)))
                      go_roundw
                      case rel => exact ⟨k + 1, _, _, _, by omega, by go_num, HK6, Lib.hid (by rw [HSNR.out, HRU.out]; exact HO6.out), Lib.hid (by rw [HSNM.out]; exact HM6.out), HAP6, HB6⟩
                      case measure => simp [intOf]; omega
      · as_aux_lemma =>
          have d1 : decide (k ≤ n) = false := decide_eq_false (by omega)
          have e : k = n + 1 := by omega
          subst e
          have hkr := HKR.out.below HB.out (show g + 1 < g + 2 by omega)
          have r0 := hkr.cell (i := 0) rfl
          have r1 := hkr.cell (i := 1) rfl
          have r2 := hkr.cell (i := 2) rfl
          have e0 := hkr.frozen 0
          have e1 := hkr.frozen 1
          have e2 := hkr.frozen 2
          have hrl : 0 < g + 1 := by omega
          have hrs : g + 1 < wr.heap.size := by omega
          have er : fulR l = (List.range (n + 1)).map (rul l) := by unfold fulR; rw [Hl.out]
          have em : fulM l C = (List.range (n + 1)).map (fulRow l C) := by unfold fulM; rw [Hl.out]
          have hlr : (fulR l).length = n + 1 := by rw [er]; simp
          have hlm : (fulM l C).length = n + 1 := by rw [em]; simp
          have hor : wr.ownsRow (g + 3) 3 1 vr (fulR l).length (iv (fulR l)) := by rw [hlr, er]; exact HVR.out
          have hom := HVM.out
          rw [← em] at hom
          obtain ⟨Ar, cr, rfl, hr1, hr2, hrd⟩ := own_rd hor
          obtain ⟨Am, cm, rfl, hm1, hm2, hmd⟩ := hom.rd
          rw [hlr] at zf1 hr1
          rw [hlm] at zf2 hm1
          have HLR := Lib.hid hlr; have HLM := Lib.hid hlm
          clear er em hlr hlm
          have HRD : Hid (wr.ownsRow (g + 3) 3 1 (.slice Ar (n + 1) cr) (fulR l).length (iv (fulR l))) := Lib.hid (by rw [← HLR.out]; exact hor)
          have HMD : Hid (OwM wr (g + 3) (.slice Am (n + 1) cm) vs (fulM l C)) := Lib.hid (by rw [← HLM.out]; exact hom)
          have HKR2 := Lib.hid hkr
          clear hrd hmd hor hkr hom
          go_wp2_with fail
          obtain ⟨w7, hw7⟩ : ∃ w7, w7 = (((wr.setCell ⟨g + 1, 0, none⟩ (.slice Ac K cc)).setCell ⟨g + 1, 1, none⟩ (.slice Ar (n + 1) cr)).setCell ⟨g + 1, 2, none⟩ (.slice Am (n + 1) cm)) := ⟨_, rfl⟩
          have k7 : Blk w7 (g + 1) 48 [.slice Ac K cc, .slice Ar (n + 1) cr, .slice Am (n + 1) cm] := by rw [hw7]; exact ((HKR2.out.set_ 0 _).set_ 1 _).set_ 2 _
          have hb7 : Below g wr w7 := by rw [hw7]; exact (((Below.refl _ _).setCell (p := ⟨g + 1, 0, none⟩) (show g ≤ g + 1 by omega) _).setCell (p := ⟨g + 1, 1, none⟩) (show g ≤ g + 1 by omega) _).setCell (p := ⟨g + 1, 2, none⟩) (show g ≤ g + 1 by omega) _
          have o7 : w7.ownsRow (g + 3) 3 1 (.slice Ar (n + 1) cr) (fulR l).length (iv (fulR l)) := by rw [hw7]; exact own_set (own_set (own_set HRD.out (show g + 1 < g + 3 by omega)) (show g + 1 < g + 3 by omega)) (show g + 1 < g + 3 by omega)
          have m7 : OwM w7 (g + 3) (.slice Am (n + 1) cm) vs (fulM l C) := by rw [hw7]; exact ((HMD.out.set_ (p := ⟨g + 1, 0, none⟩) (show g + 1 < g + 3 by omega)).set_ (p := ⟨g + 1, 1, none⟩) (show g + 1 < g + 3 by omega)).set_ (p := ⟨g + 1, 2, none⟩) (show g + 1 < g + 3 by omega)
          have r0 := k7.cell (i := 0) rfl
          have r1 := k7.cell (i := 1) rfl
          have r2 := k7.cell (i := 2) rfl
          rw [← hw7]
          clear hw7
          refine bodyPost_ret (results_cell_row rfl _ _ (g + 1) _ #[.slice Ac K cc, .slice Ar (n + 1) cr, .slice Am (n + 1) cm] _ _ rfl k7 Tryz.underlying48 rfl (by kernel_rfl)) rfl ?_
          have hbw : Below g w w7 := (HB0.out.trans (HB.out.mono (by omega))).trans hb7
          have hgw := HG.out
          exact ⟨Ar, Am, cr, cm, rfl, ⟨(HC.out.below (hbw.mono hgB)).more (by have := hbw.size; omega), own_rdS o7, m7.rdS, ⟨by rw [HK.out]; exact hK1, by unfold maxLen; exact hKc⟩, ⟨by rw [HLR.out]; exact hr1, hr2⟩, ⟨by rw [HLM.out]; exact hm1, hm2⟩⟩, hgw ▸ hbw⟩
end Go.Proofs.YthikgdogfkjioaaGreatDoor
