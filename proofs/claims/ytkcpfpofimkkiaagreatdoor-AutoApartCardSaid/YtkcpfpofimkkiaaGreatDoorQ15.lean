/- The document's full automaton: full. · The document's met and hits. · Plain: an automaton of parts stands for what can be come to; tables and lists of what lives, step by step. No program here. -/
import Derived.Test.YtkcpfpofimkkiaaGreatDoorQ13
import Derived.Test.YtkcpfpofimkkiaaGreatDoorQ14
import Derived.Test.YtkcpfpofimkkiaaGreatDoorQ5
import Derived.Test.YtkcpfpofimkkiaaGreatDoorQ1
import Derived.Test.YtkcpfpofimkkiaaGreatDoorQ12
namespace Go.Proofs.YtkcpfpofimkkiaaGreatDoor
open Go.RowKit BigFrame
set_option linter.unusedVariables false
set_option linter.unusedSimpArgs false
set_option maxRecDepth 100000
set_option pp.deepTerms true
set_option pp.maxSteps 1000000

def fulRow (l : List St) (C : List (List Rg)) (i : Nat) : List Int := (List.range C.length).map fun c => (dlt l i (repOf C c) : Int)
def fulR (l : List St) : List Int := (List.range (l.length + 1)).map (rul l)
def fulM (l : List St) (C : List (List Rg)) : List (List Int) := (List.range (l.length + 1)).map (fulRow l C)
theorem map_range_snoc {α : Type} (f : Nat → α) (k : Nat) : (List.range (k + 1)).map f = (List.range k).map f ++ [f k] := by rw [List.range_succ, List.map_append]; rfl
theorem nth_map_range (f : Nat → Int) {n k : Nat} (h : k < n) : nth ((List.range n).map f) k = f k := by unfold nth; simp [List.getD, h]
theorem nthL_map_range (f : Nat → List Int) {n k : Nat} (h : k < n) : nthL ((List.range n).map f) k = f k := by unfold nthL; simp [List.getD, h]
theorem full_FuP {l : List St} (hok : okA l = true) (C : List (List Rg)) : FuP C.length (l.length + 1) (rul l) (fun s c => dlt l s (repOf C c)) (fulR l) (fulM l C) := by
  refine ⟨by simp [fulR], by simp [fulM], fun s hs => nth_map_range _ hs, fun s hs => ?_, fun s c hs hc => Nat.lt_succ_of_le (dlt_le hok _ _)⟩
  unfold fulM
  rw [nthL_map_range _ hs]
  exact ⟨by simp [fulRow], fun c hc => nth_map_range _ hc⟩

set_option maxHeartbeats 8000000 in
theorem full_any (A Ac : Option Addr) (n c K cc : Nat) (l : List St) (C : List (List Rg)) (w : World) (B : Nat) (hB : B ≤ w.heap.size) (h : (shL shState).rd w (Lo B) l [.slice A n c]) (hok : okA l = true) (hl : l.length = n) (hn : n ≤ 1000)
    (hC : RdS w B Ac C) (hK : C.length = K) (hK1 : K ≤ cc) (hKc : cc ≤ maxLen) (hKn : K ≤ 1000) (hne : ∀ c ∈ C, c ≠ []) :
    Calls Tryz.prog 40 #[.agg #[.slice A n c], .slice Ac K cc] w fun e w' => ∃ Ar Am cr cm, e = .returned (.agg #[.slice Ac K cc, .slice Ar (n + 1) cr, .slice Am (n + 1) cm]) ∧ FuR w' w'.heap.size C (fulR l) (fulM l C) Ac Ar Am cc cr cm ∧ Below w.heap.size w w' := by
  have Hl := Lib.hid hl; have H := Lib.hid h; have HC := Lib.hid hC; have HK := Lib.hid hK; have HNE := Lib.hid hne; have HOK := Lib.hid hok
  unfold maxLen at hKc
  clear hl h hC hK hne hok
  obtain ⟨W0, hW0⟩ : ∃ W0, W0 = ((w.alloc (.cells #[.slice A n c] 24)).alloc (.cells #[.slice none 0 0, .slice none 0 0, .slice none 0 0] 89)).alloc (.cells #[.slice Ac K cc, .slice none 0 0, .slice none 0 0] 89) := ⟨_, rfl⟩
  obtain ⟨g, hg⟩ : ∃ g, w.heap.size = g := ⟨_, rfl⟩
  have hs0 : W0.heap.size = g + 1 + 1 + 1 := by rw [hW0, ← hg]; simp
  have hb0 : Below g w W0 := by rw [hW0, ← hg]; exact (((Below.refl _ _).alloc (Nat.le_refl _) _).alloc (by simp) _).alloc (by simp only [World.size_alloc]; omega) _
  have hc0 : W0.cell? ⟨g, 0, none⟩ = some (.slice A n c) := by
    rw [hW0, ← hg]
    exact (((Blk.new w 24 [.slice A n c]).alloc _).alloc _).cell (i := 0) rfl
  have hkr : Blk W0 (g + 1) 89 [.slice none 0 0, .slice none 0 0, .slice none 0 0] := by
    have := Blk.new (w.alloc (.cells #[.slice A n c] 24)) 89 [.slice none 0 0, .slice none 0 0, .slice none 0 0]
    rw [show (w.alloc (.cells #[.slice A n c] 24)).heap.size = g + 1 by rw [← hg]; simp] at this
    rw [hW0]; exact this.alloc _
  have hk2 : Blk W0 (g + 1 + 1) 89 [.slice Ac K cc, .slice none 0 0, .slice none 0 0] := by
    have := Blk.new ((w.alloc (.cells #[.slice A n c] 24)).alloc (.cells #[.slice none 0 0, .slice none 0 0, .slice none 0 0] 89)) 89 [.slice Ac K cc, .slice none 0 0, .slice none 0 0]
    rw [show ((w.alloc (.cells #[.slice A n c] 24)).alloc (.cells #[.slice none 0 0, .slice none 0 0, .slice none 0 0] 89)).heap.size = g + 1 + 1 by rw [← hg]; simp] at this
    rw [hW0]; exact this
  have HB0 := Lib.hid hb0; have HK2 := Lib.hid hk2; have HG := Lib.hid hg; have HS0 := Lib.hid hs0; have HKR := Lib.hid hkr
  clear hb0 hk2 hs0 hkr
  go_enter Tryz.func40, Tryz.ntmps40
  go_wp2_with fail
  rw [← hW0]
  clear hW0
  have hgB : B ≤ g := by omega
  clear hg
  go_loopw [7] (fun i wr => ∃ (k : Nat) (vr vm : Value) (vs : List Value), k ≤ n + 1 ∧ i = .int .i64 (k : Int) ∧ Hid (Blk wr (g + 1 + 1) 89 [.slice Ac K cc, vr, vm]) ∧ Hid (wr.ownsRow (g + 3) 3 1 vr k (iv ((List.range k).map (rul l)))) ∧ Hid (OwM wr (g + 3) vm vs ((List.range k).map (fulRow l C))) ∧ Hid (∀ (j : Nat) (u : Value), vs[j]? = some u → u.ownBlock = none ∨ u.ownBlock ≠ vr.ownBlock) ∧ Hid (Below (g + 2) W0 wr)) (fun i _ => n + 1 - (intOf i).toNat)
  case atStart => exact ⟨0, .slice none 0 0, .slice none 0 0, [], Nat.zero_le _, rfl, HK2.out, World.ownsRow_nil _ _ _ _, OwM.nil _ _, fun j u h => (by simp at h), Below.refl _ _⟩
  case round =>
    as_aux_lemma =>
      clear HK2
      obtain ⟨k, vr, vm, vs, hk, rfl, HK2, HVR, HVM, HAP, HB⟩ := hrel
      have hzr := HB.out.size
      have hz0 := HS0.out
      have zg0 := (HB.out.cell (p := ⟨g, 0, none⟩) (by show g < g + 2; omega)).trans hc0
      have zf0 := HK2.out.cell (i := 0) rfl
      have zf1 := HK2.out.cell (i := 1) rfl
      have zf2 := HK2.out.cell (i := 2) rfl
      have hlt2 := HK2.out.lt
      have hww : Below g w wr := HB0.out.trans (HB.out.mono (by omega))
      have HRC := Lib.hid (HC.out.below (hww.mono hgB))
      have HST := Lib.hid (Sh.below H.out (hww.mono hgB))
      clear hww
      by_cases hlt : k < n + 1
      · as_aux_lemma =>
          have d1 : decide (k ≤ n) = true := decide_eq_true (by omega)
          obtain ⟨wo, rfl⟩ : ∃ wo : World, wo = wr := ⟨_, rfl⟩
          go_wp2_with fail
          go_loopw [8, 9] (fun v i wr => ∃ (j : Nat), j ≤ K ∧ i = .int .i64 (j : Int) ∧ Hid (wr.ownsRow wo.heap.size 3 1 v j (iv ((List.range j).map fun c => (dlt l k (repOf C c) : Int)))) ∧ Hid (Below wo.heap.size wo wr)) (fun _ i _ => K - (intOf i).toNat)
          case atStart => exact ⟨0, Nat.zero_le _, rfl, World.ownsRow_nil _ _ _ _, Below.refl _ _⟩
          case round =>
            as_aux_lemma =>
              obtain ⟨j, hj, rfl, HRW, HBJ⟩ := hrel
              have hzj := HBJ.out.size
              have zg0 := (HBJ.out.cell (p := ⟨g, 0, none⟩) (by show g < wo.heap.size; omega)).trans zg0
              have zf0 := (HBJ.out.cell (p := ⟨g + 1 + 1, 0, none⟩) hlt2).trans zf0
              have zf1 := (HBJ.out.cell (p := ⟨g + 1 + 1, 1, none⟩) hlt2).trans zf1
              have zf2 := (HBJ.out.cell (p := ⟨g + 1 + 1, 2, none⟩) hlt2).trans zf2
              by_cases hjK : j < K
              · as_aux_lemma =>
                  have dj : decide ((j : Int) < (K : Int)) = true := decide_eq_true (by omega)
                  have hjc : j < C.length := by rw [HK.out]; exact hjK
                  have hwo : B ≤ wo.heap.size := by omega
                  obtain ⟨cb, co, rfl, hcb, hcc⟩ := (HRC.out.below (HBJ.out.mono hwo)) (by omega)
                  obtain ⟨A3, c3, y1, q1, q2, hrd⟩ := hcc j hjc
                  have hne : 0 < (nthS C j).length := List.length_pos_iff.2 (HNE.out _ (nthS_mem hjc))
                  obtain ⟨rb, ro, rfl, hrb, hrc⟩ := hrd.at_ hne
                  have y2 := (hrc 0 hne).1
                  have hrep : repOf C j = (nthR (nthS C j) 0).1 := by
                    unfold repOf nthS fstR nthR
                    cases C.getD j [] <;> rfl
                  have HSN : Hid (iv ((List.range (j + 1)).map fun c => (dlt l k (repOf C c) : Int)) = iv ((List.range j).map fun c => (dlt l k (repOf C c) : Int)) ++ [.int .i64 (dlt l k (repOf C j) : Int)]) := Lib.hid (by rw [map_range_snoc]; unfold iv; rw [List.map_append]; rfl)
                  rw [Nat.zero_mul, Nat.add_zero] at y2
                  rw [← hrep] at y2
                  generalize repOf C j = pt at *
                  generalize (nthS C j).length = m3 at *
                  have hbB : cb < wr.heap.size := by omega
                  have hrB : rb < wr.heap.size := by omega
                  unfold maxLen at q2
                  have HSTJ := Lib.hid (Sh.below HST.out (HBJ.out.mono hwo))
                  clear hcc hrc hrd hrep HRC HNE
                  by_cases hkn : k < n
                  · have d2 : decide ((k : Int) < (n : Int)) = true := decide_eq_true (by omega)
                    have hkl : k < l.length := by rw [Hl.out]; exact hkn
                    have hs := List.getElem?_eq_getElem hkl
                    have hstep := fun X : WB wr.heap.size wr => r1Step_any A n c k l _ pt X.val B (Sh.below HSTJ.out (X.bel.mono (by omega))) (by have := X.bel.size; omega) Hl.out (by omega) hs
                    have hdl : dlt l k pt = if 0 ≤ stp (l[k]).2 pt then (stp (l[k]).2 pt).toNat else l.length := by unfold dlt; rw [hs]
                    generalize stp (l[k]).2 pt = st at *
                    have HSP := Lib.hid hstep
                    clear hstep hs
                    have x0 := fun X : WB wr.heap.size wr => (X.bel.cell (p := ⟨g, 0, none⟩) (by show g < wr.heap.size; omega)).trans zg0
                    have x1 := fun X : WB wr.heap.size wr => (X.bel.cell (p := ⟨cb, co + j, none⟩) hbB).trans y1
                    have x2 := fun X : WB wr.heap.size wr => (X.bel.cell (p := ⟨rb, ro, none⟩) hrB).trans y2
                    have hst2 := okA_len HOK.out
                    by_cases hst : 0 ≤ st
                    · as_aux_lemma =>
                        have d3 : decide (0 ≤ st) = true := decide_eq_true hst
                        have HDL : Hid ((dlt l k pt : Int) = st) := Lib.hid (by rw [hdl, if_pos hst]; omega)
                        clear hdl
                        go_wp2_with fail
                        refine wp_region_cls (B := wr.heap.size) (w0 := wr) (by kernel_rfl) (by kernel_rfl) (Below.refl _ _) ?_
                        repeat (first | go_big_quiet_skip | (go_big_quiet_want; go_big_quiet_op; go_big_quiet_on))
                        go_big_quiet_want
                        go_big_quiet_op
                        refine ⟨.int .i64 st, fun X => X.call (Nat.le_refl _) (HSP.out X), ?_⟩
                        go_big_quiet_on
                        repeat (first | go_big_quiet_skip | (go_big_quiet_want; go_big_quiet_op; go_big_quiet_on))
                        refine wpQuiet_nil ?_
                        intro X
                        obtain ⟨w2, hw2⟩ : ∃ w2, w2 = X.val := ⟨_, rfl⟩
                        have hb2 := X.bel
                        rw [← hw2] at hb2 ⊢
                        clear hw2 X
                        have HRW2 := Lib.hid (own_ext HRW.out hb2)
                        have HB2 := Lib.hid (HBJ.out.trans (hb2.mono hzj))
                        have hz2 := hb2.size
                        clear HRW HBJ hb2
                        go_wp2_with (at_builtin; refine wpList_app elInts rfl (.tmp 46) (.tmp 48) rfl wo.heap.size _ j 1 _ [.int .i64 st] rfl HRW2.out rfl rfl (by simp [Value.oneCell']) (by omega) (by omega) HB2.out.size ?_; intro v5 w5 hown5 hg5 hat5; have HR5 := Lib.hid hown5; have HB5 := Lib.hid (HB2.out.grown hg5 HB2.out.size (fun k e => own_base HRW2.out k e)); clear hown5 hg5 hat5)
                        go_roundw
                        case rel =>
                          exact ⟨j + 1, by omega, by go_num, Lib.hid (by rw [HSN.out, HDL.out]; exact HR5.out), HB5⟩
                        case measure => simp [intOf]; omega
                    · as_aux_lemma =>
                        have d3 : decide (0 ≤ st) = false := decide_eq_false hst
                        have HDL : Hid ((dlt l k pt : Int) = (n : Int)) := Lib.hid (by rw [hdl, if_neg hst, Hl.out])
                        clear hdl
                        go_wp2_with fail
                        refine wp_region_cls (B := wr.heap.size) (w0 := wr) (by kernel_rfl) (by kernel_rfl) (Below.refl _ _) ?_
                        repeat (first | go_big_quiet_skip | (go_big_quiet_want; go_big_quiet_op; go_big_quiet_on))
                        go_big_quiet_want
                        go_big_quiet_op
                        refine ⟨.int .i64 st, fun X => X.call (Nat.le_refl _) (HSP.out X), ?_⟩
                        go_big_quiet_on
                        repeat (first | go_big_quiet_skip | (go_big_quiet_want; go_big_quiet_op; go_big_quiet_on))
                        refine wpQuiet_nil ?_
                        intro X
                        obtain ⟨w2, hw2⟩ : ∃ w2, w2 = X.val := ⟨_, rfl⟩
                        have hb2 := X.bel
                        rw [← hw2] at hb2 ⊢
                        clear hw2 X
                        have HRW2 := Lib.hid (own_ext HRW.out hb2)
                        have HB2 := Lib.hid (HBJ.out.trans (hb2.mono hzj))
                        have hz2 := hb2.size
                        clear HRW HBJ hb2
                        go_wp2_with (at_builtin; refine wpList_app elInts rfl (.tmp 46) (.tmp 48) rfl wo.heap.size _ j 1 _ [.int .i64 (n : Int)] rfl HRW2.out rfl rfl (by simp [Value.oneCell']) (by omega) (by omega) HB2.out.size ?_; intro v5 w5 hown5 hg5 hat5; have HR5 := Lib.hid hown5; have HB5 := Lib.hid (HB2.out.grown hg5 HB2.out.size (fun k e => own_base HRW2.out k e)); clear hown5 hg5 hat5)
                        go_roundw
                        case rel =>
                          exact ⟨j + 1, by omega, by go_num, Lib.hid (by rw [HSN.out, HDL.out]; exact HR5.out), HB5⟩
                        case measure => simp [intOf]; omega
                  · as_aux_lemma =>
                      have d2 : decide ((k : Int) < (n : Int)) = false := decide_eq_false (by omega)
                      have HDL : Hid ((dlt l k pt : Int) = (n : Int)) := Lib.hid (by unfold dlt; rw [List.getElem?_eq_none (by rw [Hl.out]; omega)]; simp [Hl.out])
                      have hb2 : Below wr.heap.size wr wr := Below.refl _ _
                      have HRW2 := Lib.hid (own_ext HRW.out hb2)
                      have HB2 := Lib.hid (HBJ.out.trans (hb2.mono hzj))
                      have hz2 := hb2.size
                      clear HRW HBJ hb2
                      go_wp2_with (at_builtin; refine wpList_app elInts rfl (.tmp 46) (.tmp 48) rfl wo.heap.size _ j 1 _ [.int .i64 (n : Int)] rfl HRW2.out rfl rfl (by simp [Value.oneCell']) (by omega) (by omega) HB2.out.size ?_; intro v5 w5 hown5 hg5 hat5; have HR5 := Lib.hid hown5; have HB5 := Lib.hid (HB2.out.grown hg5 HB2.out.size (fun k e => own_base HRW2.out k e)); clear hown5 hg5 hat5)
                      go_roundw
                      case rel =>
                        exact ⟨j + 1, by omega, by go_num, Lib.hid (by rw [HSN.out, HDL.out]; exact HR5.out), HB5⟩
                      case measure => simp [intOf]; omega
              · as_aux_lemma =>
                  have dj : decide ((j : Int) < (K : Int)) = false := decide_eq_false (by omega)
                  have e : j = K := by omega
                  subst e
                  have hrow := HRW.out
                  rw [show ((List.range j).map fun c => (dlt l k (repOf C c) : Int)) = fulRow l C k by unfold fulRow; rw [HK.out]] at hrow
                  have HFL : Hid ((fulRow l C k).length = j) := Lib.hid (by unfold fulRow; simp [HK.out])
                  have hvmx := OwM.ext HVM.out HBJ.out
                  have hvrx := own_ext HVR.out HBJ.out
                  have hkx := HK2.out.below' HBJ.out
                  have hbx := HB.out.trans (HBJ.out.mono (by omega))
                  obtain ⟨Aw, cw, rfl, hw1, hw2⟩ := own_len hrow
                  have HROW := Lib.hid hrow; have HVMX := Lib.hid hvmx; have HVRX := Lib.hid hvrx; have HKX := Lib.hid hkx; have HBX := Lib.hid hbx
                  have HLR : Hid (((List.range k).map (fulRow l C)).length = k) := Lib.hid (by simp)
                  have HVMR : Hid (wr.ownsRow (g + 3) 37 1 vm k vs) := Lib.hid (by have := HVMX.out.row; rw [HLR.out] at this; exact this)
                  have HFR : Hid (∀ u : Value, u = .slice Aw j cw → u.ownBlock = none ∨ u.ownBlock ≠ vr.ownBlock) := Lib.hid (fun u e => by
                    cases hob : u.ownBlock with
                    | none => exact .inl rfl
                    | some q =>
                      refine .inr fun e2 => ?_
                      have h1 := (hrow.lt q (by rw [← e]; exact hob)).1
                      have h2 := (HVR.out.lt q e2.symm).2
                      omega)
                  have HSNM : Hid ((List.range (k + 1)).map (fulRow l C) = (List.range k).map (fulRow l C) ++ [fulRow l C k]) := Lib.hid (map_range_snoc _ _)
                  have HSNR : Hid (iv ((List.range (k + 1)).map (rul l)) = iv ((List.range k).map (rul l)) ++ [.int .i64 (rul l k)]) := Lib.hid (by rw [map_range_snoc]; unfold iv; rw [List.map_append]; rfl)
                  clear hrow hvmx hvrx hkx hbx HVM HVR HK2 HB HRW HBJ
                  have hgr : g + 3 ≤ wr.heap.size := by omega
                  by_cases hkn : k < n
                  · as_aux_lemma =>
                      have d2 : decide ((k : Int) < (n : Int)) = true := decide_eq_true (by omega)
                      have hkl : k < l.length := by rw [Hl.out]; exact hkn
                      obtain ⟨sb, so, rfl, hsb, hst⟩ := states_at H.out (by omega)
                      obtain ⟨u1, -⟩ := hst k _ (List.getElem?_eq_getElem hkl)
                      have HRU : Hid (rul l k = l[k].1) := Lib.hid (by unfold rul; rw [List.getElem?_eq_getElem hkl])
                      clear hst
                      generalize l[k].1 = ru at *
                      have hsg : sb < g := Nat.lt_of_lt_of_le hsb hgB
                      have u1 := (HB0.out.cell (p := ⟨sb, so + k * 2, none⟩) hsg).trans u1
                      go_wp2_with (first | (at_builtin; refine wpList_app elRows rfl (.tmp 51) (.tmp 53) rfl (g + 3) vm k 1 vs [.slice Aw j cw] rfl HVMR.out rfl rfl (by simp [Value.oneCell']) (by omega) (by omega) (by omega) ?_; go_must (intro v5 w5 hown5 hg5 hat5); go_must (have hv5 := own_len hown5); go_must (have HM5 := Lib.hid ((HVMX.out.push hg5 (by rw [HFL.out]; exact ownsRow_base HROW.out (show g + 3 ≤ wo.heap.size by omega)) (by rw [HLR.out]; exact hown5)).set_ (p := ⟨g + 1 + 1, 2, none⟩) (x := v5) (show g + 1 + 1 < g + 3 by omega))); go_must (have hk5 := HKX.out.grown hg5 (fun e => by have := (HVMX.out.row.lt _ e.symm).1; omega)); go_must (have yk0 := hk5.cell (i := 2) rfl); go_must (have yf0 := hk5.frozen 2); go_must (have hk5 := hk5.set_ 2 v5); go_must (have yk1 := hk5.cell (i := 1) rfl); go_must (have yf1 := hk5.frozen 1); go_must (have HK5 := Lib.hid hk5); go_must (have hb5 := (HBX.out.grown hg5 (by omega) (fun q e => by have := (HVMX.out.row.lt _ e).1; omega)).setCell (p := ⟨g + 1 + 1, 2, none⟩) (show g + 2 ≤ g + 1 + 1 by omega) v5); go_must (have HB5 := Lib.hid hb5); go_must (have yg := (hb5.cell (p := ⟨g, 0, none⟩) (show g < g + 2 by omega)).trans hc0); go_must (have ys := (hb5.cell (p := ⟨sb, so + k * 2, none⟩) (show sb < g + 2 by omega)).trans u1); go_must (have hr5 := own_set (p := ⟨g + 1 + 1, 2, none⟩) (x := v5) (HVRX.out.kept hg5 (own_ne HVRX.out HVMX.out.row (by decide))) (show g + 1 + 1 < g + 3 by omega)); go_must (have HR5 := Lib.hid hr5); go_must (have hs5 : wr.heap.size ≤ (w5.setCell ⟨g + 1 + 1, 2, none⟩ v5).heap.size := by rw [setCell_size]; exact hg5.size); go_must (have HSZ5 : Hid ((w5.setCell ⟨g + 1 + 1, 2, none⟩ v5).heap.size = w5.heap.size) := Lib.hid (setCell_size _ _ _)); go_must (obtain ⟨A5, c5, rfl, -, -⟩ := hv5); go_must (clear hown5 hg5 hat5 hk5 hb5 hr5)) | (at_builtin; go_must (refine wpList_app elInts rfl (.tmp 66) (.tmp 68) rfl (g + 3) vr k 1 (iv ((List.range k).map (rul l))) [.int .i64 ru] rfl HR5.out (by rw [HSZ5.out]; rfl) rfl (by simp [Value.oneCell']) (by omega) (by omega) (by omega) ?_); go_must (intro v6 w6 hown6 hg6 hat6); go_must (have hv6 := own_len hown6); go_must (have hap := all_snoc HAP.out (HFR.out _ rfl)); go_must (have hm6 := HM5.out.grown hg6 (own_ne HM5.out.row HR5.out (by decide)) hap); go_must (have HM6 := Lib.hid (hm6.set_ (p := ⟨g + 1 + 1, 1, none⟩) (x := v6) (show g + 1 + 1 < g + 3 by omega))); go_must (have hk6 := HK5.out.grown hg6 (fun e => by have := (HR5.out.lt _ e.symm).1; omega)); go_must (have yk6 := hk6.cell (i := 1) rfl); go_must (have yf6 := hk6.frozen 1); go_must (have HK6 := Lib.hid (hk6.set_ 1 v6)); go_must (have HB6 := Lib.hid ((HB5.out.grown hg6 (by omega) (fun q e => by have := (HR5.out.lt _ e).1; omega)).setCell (p := ⟨g + 1 + 1, 1, none⟩) (show g + 2 ≤ g + 1 + 1 by omega) v6)); go_must (have HO6 := Lib.hid (own_set (p := ⟨g + 1 + 1, 1, none⟩) (x := v6) hown6 (show g + 1 + 1 < g + 3 by omega))); go_must (have HAP6 := Lib.hid (ap_next hap (fun i u q hu ho => ((HM5.out.cl i u hu).lt q ho).2) hat6)); go_must (obtain ⟨A6, c6, rfl, -, -⟩ := hv6); go_must (clear hown6 hg6 hat6 hk6 hm6 hap)))
                      go_roundw
                      case rel => exact ⟨k + 1, _, _, _, by omega, by go_num, HK6, Lib.hid (by rw [HSNR.out, HRU.out]; exact HO6.out), Lib.hid (by rw [HSNM.out]; exact HM6.out), HAP6, HB6⟩
                      case measure => simp [intOf]; omega
                  · as_aux_lemma =>
                      have d2 : decide ((k : Int) < (n : Int)) = false := decide_eq_false (by omega)
                      have HRU : Hid (rul l k = -1) := Lib.hid (by unfold rul; rw [List.getElem?_eq_none (by rw [Hl.out]; omega)])
                      go_wp2_with (first | (at_builtin; refine wpList_app elRows rfl (.tmp 51) (.tmp 53) rfl (g + 3) vm k 1 vs [.slice Aw j cw] rfl HVMR.out rfl rfl (by simp [Value.oneCell']) (by omega) (by omega) (by omega) ?_; go_must (intro v5 w5 hown5 hg5 hat5); go_must (have hv5 := own_len hown5); go_must (have HM5 := Lib.hid ((HVMX.out.push hg5 (by rw [HFL.out]; exact ownsRow_base HROW.out (show g + 3 ≤ wo.heap.size by omega)) (by rw [HLR.out]; exact hown5)).set_ (p := ⟨g + 1 + 1, 2, none⟩) (x := v5) (show g + 1 + 1 < g + 3 by omega))); go_must (have hk5 := HKX.out.grown hg5 (fun e => by have := (HVMX.out.row.lt _ e.symm).1; omega)); go_must (have yk0 := hk5.cell (i := 2) rfl); go_must (have yf0 := hk5.frozen 2); go_must (have hk5 := hk5.set_ 2 v5); go_must (have yk1 := hk5.cell (i := 1) rfl); go_must (have yf1 := hk5.frozen 1); go_must (have HK5 := Lib.hid hk5); go_must (have hb5 := (HBX.out.grown hg5 (by omega) (fun q e => by have := (HVMX.out.row.lt _ e).1; omega)).setCell (p := ⟨g + 1 + 1, 2, none⟩) (show g + 2 ≤ g + 1 + 1 by omega) v5); go_must (have HB5 := Lib.hid hb5); go_must (have yg := (hb5.cell (p := ⟨g, 0, none⟩) (show g < g + 2 by omega)).trans hc0); go_must (have hr5 := own_set (p := ⟨g + 1 + 1, 2, none⟩) (x := v5) (HVRX.out.kept hg5 (own_ne HVRX.out HVMX.out.row (by decide))) (show g + 1 + 1 < g + 3 by omega)); go_must (have HR5 := Lib.hid hr5); go_must (have hs5 : wr.heap.size ≤ (w5.setCell ⟨g + 1 + 1, 2, none⟩ v5).heap.size := by rw [setCell_size]; exact hg5.size); go_must (have HSZ5 : Hid ((w5.setCell ⟨g + 1 + 1, 2, none⟩ v5).heap.size = w5.heap.size) := Lib.hid (setCell_size _ _ _)); go_must (obtain ⟨A5, c5, rfl, -, -⟩ := hv5); go_must (clear hown5 hg5 hat5 hk5 hb5 hr5)) | (at_builtin; go_must (refine wpList_app elInts rfl (.tmp 66) (.tmp 68) rfl (g + 3) vr k 1 (iv ((List.range k).map (rul l))) [.int .i64 (-1)] rfl HR5.out (by rw [HSZ5.out]; rfl) rfl (by simp [Value.oneCell']) (by omega) (by omega) (by omega) ?_); go_must (intro v6 w6 hown6 hg6 hat6); go_must (have hv6 := own_len hown6); go_must (have hap := all_snoc HAP.out (HFR.out _ rfl)); go_must (have hm6 := HM5.out.grown hg6 (own_ne HM5.out.row HR5.out (by decide)) hap); go_must (have HM6 := Lib.hid (hm6.set_ (p := ⟨g + 1 + 1, 1, none⟩) (x := v6) (show g + 1 + 1 < g + 3 by omega))); go_must (have hk6 := HK5.out.grown hg6 (fun e => by have := (HR5.out.lt _ e.symm).1; omega)); go_must (have yk6 := hk6.cell (i := 1) rfl); go_must (have yf6 := hk6.frozen 1); go_must (have HK6 := Lib.hid (hk6.set_ 1 v6)); go_must (have HB6 := Lib.hid ((HB5.out.grown hg6 (by omega) (fun q e => by have := (HR5.out.lt _ e).1; omega)).setCell (p := ⟨g + 1 + 1, 1, none⟩) (show g + 2 ≤ g + 1 + 1 by omega) v6)); go_must (have HO6 := Lib.hid (own_set (p := ⟨g + 1 + 1, 1, none⟩) (x := v6) hown6 (show g + 1 + 1 < g + 3 by omega))); go_must (have HAP6 := Lib.hid (ap_next hap (fun i u q hu ho => ((HM5.out.cl i u hu).lt q ho).2) hat6)); go_must (obtain ⟨A6, c6, rfl, -, -⟩ := hv6); go_must (clear hown6 hg6 hat6 hk6 hm6 hap)))
                      go_roundw
                      case rel => exact ⟨k + 1, _, _, _, by omega, by go_num, HK6, Lib.hid (by rw [HSNR.out, HRU.out]; exact HO6.out), Lib.hid (by rw [HSNM.out]; exact HM6.out), HAP6, HB6⟩
                      case measure => simp [intOf]; omega
      · as_aux_lemma =>
          have d1 : decide (k ≤ n) = false := decide_eq_false (by omega)
          have e : k = n + 1 := by omega
          subst e
          have hkr := HKR.out.below HB.out (show g + 1 < g + 2 by omega)
          have r0 := hkr.cell (i := 0) rfl
          have r1 := hkr.cell (i := 1) rfl
          have r2 := hkr.cell (i := 2) rfl
          have e0 := hkr.frozen 0
          have e1 := hkr.frozen 1
          have e2 := hkr.frozen 2
          have hrl : 0 < g + 1 := by omega
          have hrs : g + 1 < wr.heap.size := by omega
          have er : fulR l = (List.range (n + 1)).map (rul l) := by unfold fulR; rw [Hl.out]
          have em : fulM l C = (List.range (n + 1)).map (fulRow l C) := by unfold fulM; rw [Hl.out]
          have hlr : (fulR l).length = n + 1 := by rw [er]; simp
          have hlm : (fulM l C).length = n + 1 := by rw [em]; simp
          have hor : wr.ownsRow (g + 3) 3 1 vr (fulR l).length (iv (fulR l)) := by rw [hlr, er]; exact HVR.out
          have hom := HVM.out
          rw [← em] at hom
          obtain ⟨Ar, cr, rfl, hr1, hr2, hrd⟩ := own_rd hor
          obtain ⟨Am, cm, rfl, hm1, hm2, hmd⟩ := hom.rd
          rw [hlr] at zf1 hr1
          rw [hlm] at zf2 hm1
          have HLR := Lib.hid hlr; have HLM := Lib.hid hlm
          clear er em hlr hlm
          have HRD : Hid (wr.ownsRow (g + 3) 3 1 (.slice Ar (n + 1) cr) (fulR l).length (iv (fulR l))) := Lib.hid (by rw [← HLR.out]; exact hor)
          have HMD : Hid (OwM wr (g + 3) (.slice Am (n + 1) cm) vs (fulM l C)) := Lib.hid (by rw [← HLM.out]; exact hom)
          have HKR2 := Lib.hid hkr
          clear hrd hmd hor hkr hom
          go_wp2_with fail
          obtain ⟨w7, hw7⟩ : ∃ w7, w7 = (((wr.setCell ⟨g + 1, 0, none⟩ (.slice Ac K cc)).setCell ⟨g + 1, 1, none⟩ (.slice Ar (n + 1) cr)).setCell ⟨g + 1, 2, none⟩ (.slice Am (n + 1) cm)) := ⟨_, rfl⟩
          have k7 : Blk w7 (g + 1) 89 [.slice Ac K cc, .slice Ar (n + 1) cr, .slice Am (n + 1) cm] := by rw [hw7]; exact ((HKR2.out.set_ 0 _).set_ 1 _).set_ 2 _
          have hb7 : Below g wr w7 := by rw [hw7]; exact (((Below.refl _ _).setCell (p := ⟨g + 1, 0, none⟩) (show g ≤ g + 1 by omega) _).setCell (p := ⟨g + 1, 1, none⟩) (show g ≤ g + 1 by omega) _).setCell (p := ⟨g + 1, 2, none⟩) (show g ≤ g + 1 by omega) _
          have o7 : w7.ownsRow (g + 3) 3 1 (.slice Ar (n + 1) cr) (fulR l).length (iv (fulR l)) := by rw [hw7]; exact own_set (own_set (own_set HRD.out (show g + 1 < g + 3 by omega)) (show g + 1 < g + 3 by omega)) (show g + 1 < g + 3 by omega)
          have m7 : OwM w7 (g + 3) (.slice Am (n + 1) cm) vs (fulM l C) := by rw [hw7]; exact ((HMD.out.set_ (p := ⟨g + 1, 0, none⟩) (show g + 1 < g + 3 by omega)).set_ (p := ⟨g + 1, 1, none⟩) (show g + 1 < g + 3 by omega)).set_ (p := ⟨g + 1, 2, none⟩) (show g + 1 < g + 3 by omega)
          have r0 := k7.cell (i := 0) rfl
          have r1 := k7.cell (i := 1) rfl
          have r2 := k7.cell (i := 2) rfl
          rw [← hw7]
          clear hw7
          refine bodyPost_ret (results_cell_row rfl _ _ (g + 1) _ #[.slice Ac K cc, .slice Ar (n + 1) cr, .slice Am (n + 1) cm] _ _ rfl k7 Tryz.underlying89 rfl (by kernel_rfl)) rfl ?_
          have hbw : Below g w w7 := (HB0.out.trans (HB.out.mono (by omega))).trans hb7
          have hgw := HG.out
          exact ⟨Ar, Am, cr, cm, rfl, ⟨(HC.out.below (hbw.mono hgB)).more (by have := hbw.size; omega), own_rdS o7, m7.rdS, ⟨by rw [HK.out]; exact hK1, by unfold maxLen; exact hKc⟩, ⟨by rw [HLR.out]; exact hr1, hr2⟩, ⟨by rw [HLM.out]; exact hm1, hm2⟩⟩, hgw ▸ hbw⟩
end Go.Proofs.YtkcpfpofimkkiaaGreatDoor
namespace Go.Proofs.YtkcpfpofimkkiaaGreatDoor
open Go.RowKit BigFrame
set_option linter.unusedVariables false
set_option linter.unusedSimpArgs false
set_option maxRecDepth 100000

/-- Is a pair among the first k? -/
def metB (T : List Nd) (x : Nat × Nat) : Bool := decide (x ∈ T.map (·.1))
theorem take_met {T : List Nd} {k : Nat} {x : Nat × Nat} (hk : k < T.length) : (x ∈ (T.take (k + 1)).map (·.1)) ↔ (x ∈ (T.take k).map (·.1) ∨ (nthT T k).1 = x) := by
  rw [List.take_add_one, nthT_some hk]
  simp only [Option.toList_some, List.map_append, List.map_cons, List.map_nil, List.mem_append, List.mem_singleton]
  exact ⟨fun h => h.imp id Eq.symm, fun h => h.imp id Eq.symm⟩

set_option maxHeartbeats 4000000 in
theorem met_any (b n c : Nat) (T : List Nd) (x y : Nat) (w : World) (hl : T.length = n) (hn : n ≤ 1000000)
    (hc : ∀ k, k < n → w.cell? ⟨b, k * 3, none⟩ = some (.int .i64 ((nthT T k).1.1 : Int)) ∧ w.cell? ⟨b, k * 3 + 1, none⟩ = some (.int .i64 ((nthT T k).1.2 : Int))) :
    Calls Tryz.prog 44 #[.slice (some ⟨b, 0, none⟩) n c, .int .i64 (x : Int), .int .i64 (y : Int)] w fun e w' => e = .returned (.bool (metB T (x, y))) ∧ w' = w := by
  have HL := Lib.hid hl; have HC := Lib.hid hc
  clear hl hc
  go_enter Tryz.func44, Tryz.ntmps44
  go_wp2_with fail
  go_loop [7] (fun i => ∃ k : Nat, k ≤ n ∧ i = .int .i64 (k : Int) ∧ Hid ((x, y) ∉ (T.take k).map (·.1))) (fun i => n - (intOf i).toNat)
  case atStart => exact ⟨0, Nat.zero_le _, rfl, Lib.hid (by simp)⟩
  case round =>
    as_aux_lemma =>
      obtain ⟨k, hk, rfl, HN⟩ := hrel
      by_cases hlt : k < n
      · as_aux_lemma =>
          have d0 : decide (k < n) = true := decide_eq_true hlt
          obtain ⟨c1, c2⟩ := HC.out k hlt
          have HT := Lib.hid (take_met (T := T) (k := k) (x := (x, y)) (by rw [HL.out]; exact hlt))
          have HM : Hid ((nthT T k).1 = (x, y) → (x, y) ∈ T.map (·.1)) := Lib.hid (fun e => by
            rw [← e]; exact List.mem_map_of_mem (List.mem_of_getElem? (nthT_some (by rw [HL.out]; exact hlt))))
          generalize nthT T k = nd at *
          obtain ⟨⟨p, r⟩, wy⟩ := nd
          simp only at c1 c2
          by_cases h1 : p = x
          · by_cases h2 : r = y
            · as_aux_lemma =>
                have e1 : ((p : Int) == (x : Int)) = true := by simp [h1]
                have e2 : ((r : Int) == (y : Int)) = true := by simp [h2]
                have HB : Hid (metB T (x, y) = true) := Lib.hid (by unfold metB; exact decide_eq_true (HM.out (by rw [h1, h2])))
                clear h1 h2
                go_wp2_with fail
                go_ret
                exact ⟨by rw [HB.out]; rfl, rfl⟩
            · as_aux_lemma =>
                have e1 : ((p : Int) == (x : Int)) = true := by simp [h1]
                have e2 : ((r : Int) == (y : Int)) = false := by simp; omega
                have HN2 : Hid ((x, y) ∉ (T.take (k + 1)).map (·.1)) := Lib.hid (fun q => by
                  rcases HT.out.1 q with q | q
                  · exact HN.out q
                  · exact h2 (congrArg Prod.snd q))
                clear h1 h2
                go_wp2_with fail
                go_round
                case rel => exact ⟨k + 1, by omega, by go_num, HN2.out⟩
                case measure => simp [intOf]; omega
          · as_aux_lemma =>
              have e1 : ((p : Int) == (x : Int)) = false := by simp; omega
              have HN2 : Hid ((x, y) ∉ (T.take (k + 1)).map (·.1)) := Lib.hid (fun q => by
                rcases HT.out.1 q with q | q
                · exact HN.out q
                · exact h1 (congrArg Prod.fst q))
              clear h1
              go_wp2_with fail
              go_round
              case rel => exact ⟨k + 1, by omega, by go_num, HN2.out⟩
              case measure => simp [intOf]; omega
      · as_aux_lemma =>
          have d0 : decide (k < n) = false := decide_eq_false hlt
          have HB : Hid (metB T (x, y) = false) := Lib.hid (by
            have := HN.out
            rw [List.take_of_length_le (by rw [HL.out]; omega)] at this
            unfold metB; exact decide_eq_false this)
          go_wp2_with fail
          go_ret
          exact ⟨by rw [HB.out]; rfl, rfl⟩

/-- Does a pair end the search? -/
def hitD (la lb : List St) (rule : Int) (s : Nat × Nat) : Bool := if 0 ≤ rule then rul la s.1 == rule else rul la s.1 != rul lb s.2
theorem fulR_nth {l : List St} {s : Nat} (h : s ≤ l.length) : nth (fulR l) s = rul l s := by
  unfold nth fulR
  rw [List.getD_eq_getElem?_getD, List.getElem?_map, List.getElem?_range (by omega)]; rfl
theorem fulR_len (l : List St) : (fulR l).length = l.length + 1 := by simp [fulR]

set_option maxHeartbeats 4000000 in
theorem hits_any (Ac Ar Am Ac' Ar' Am' Aw : Option Addr) (K cc cr cm cr' cm' nr nr' lw cw x y : Nat) (la lb : List St) (rule : Int) (w : World) (B : Nat) (hB : B ≤ w.heap.size) (ha : RdI w B Ar (fulR la)) (hb : RdI w B Ar' (fulR lb)) (hx : x ≤ la.length) (hy : y ≤ lb.length) (hna : nr = la.length + 1) (hnb : nr' = lb.length + 1) (hl1 : la.length ≤ 1000) (hl2 : lb.length ≤ 1000) :
    Calls Tryz.prog 42 #[.agg #[.slice Ac K cc, .slice Ar nr cr, .slice Am nr cm], .agg #[.slice Ac' K cc, .slice Ar' nr' cr', .slice Am' nr' cm'], .agg #[.int .i64 (x : Int), .int .i64 (y : Int), .slice Aw lw cw], .int .i64 rule] w fun e w' => e = .returned (.bool (hitD la lb rule (x, y))) ∧ Below w.heap.size w w' := by
  obtain ⟨b1, o1, rfl, hb1, hc1⟩ := ha.at_ (by rw [fulR_len]; omega)
  obtain ⟨b2, o2, rfl, hb2, hc2⟩ := hb.at_ (by rw [fulR_len]; omega)
  have z1 := hc1 x (by rw [fulR_len]; omega)
  have z2 := hc2 y (by rw [fulR_len]; omega)
  rw [fulR_nth hx] at z1
  rw [fulR_nth hy] at z2
  obtain ⟨g, hg⟩ : ∃ g, w.heap.size = g := ⟨_, rfl⟩
  obtain ⟨W0, hW0⟩ : ∃ W0, W0 = ((w.alloc (.cells #[.slice Ac K cc, .slice (some ⟨b1, o1, none⟩) nr cr, .slice Am nr cm] 89)).alloc (.cells #[.slice Ac' K cc, .slice (some ⟨b2, o2, none⟩) nr' cr', .slice Am' nr' cm'] 89)).alloc (.cells #[.int .i64 (x : Int), .int .i64 (y : Int), .slice Aw lw cw] 93) := ⟨_, rfl⟩
  have hb0 : Below g w W0 := by rw [hW0, ← hg]; exact (((Below.refl _ _).alloc (Nat.le_refl _) _).alloc (by simp) _).alloc (by simp only [World.size_alloc]; omega) _
  have hk1 : Blk W0 g 89 [.slice Ac K cc, .slice (some ⟨b1, o1, none⟩) nr cr, .slice Am nr cm] := by rw [hW0, ← hg]; exact ((Blk.new w _ _).alloc _).alloc _
  have hk2 : Blk W0 (g + 1) 89 [.slice Ac' K cc, .slice (some ⟨b2, o2, none⟩) nr' cr', .slice Am' nr' cm'] := by
    have := Blk.new (w.alloc (.cells #[.slice Ac K cc, .slice (some ⟨b1, o1, none⟩) nr cr, .slice Am nr cm] 89)) 89 [.slice Ac' K cc, .slice (some ⟨b2, o2, none⟩) nr' cr', .slice Am' nr' cm']
    rw [show (w.alloc (.cells #[.slice Ac K cc, .slice (some ⟨b1, o1, none⟩) nr cr, .slice Am nr cm] 89)).heap.size = g + 1 by rw [← hg]; simp] at this
    rw [hW0]; exact this.alloc _
  have hk3 : Blk W0 (g + 1 + 1) 93 [.int .i64 (x : Int), .int .i64 (y : Int), .slice Aw lw cw] := by
    have := Blk.new ((w.alloc (.cells #[.slice Ac K cc, .slice (some ⟨b1, o1, none⟩) nr cr, .slice Am nr cm] 89)).alloc (.cells #[.slice Ac' K cc, .slice (some ⟨b2, o2, none⟩) nr' cr', .slice Am' nr' cm'] 89)) 93 [.int .i64 (x : Int), .int .i64 (y : Int), .slice Aw lw cw]
    rw [show ((w.alloc (.cells #[.slice Ac K cc, .slice (some ⟨b1, o1, none⟩) nr cr, .slice Am nr cm] 89)).alloc (.cells #[.slice Ac' K cc, .slice (some ⟨b2, o2, none⟩) nr' cr', .slice Am' nr' cm'] 89)).heap.size = g + 1 + 1 by rw [← hg]; simp] at this
    rw [hW0]; exact this
  have q1 := hk1.cell (i := 1) rfl
  have q2 := hk2.cell (i := 1) rfl
  have q3 := hk3.cell (i := 0) rfl
  have q4 := hk3.cell (i := 1) rfl
  have z1 := (hb0.cell (p := ⟨b1, o1 + x, none⟩) (by show b1 < g; omega)).trans z1
  have z2 := (hb0.cell (p := ⟨b2, o2 + y, none⟩) (by show b2 < g; omega)).trans z2
  have HB0 := Lib.hid hb0; have HG := Lib.hid hg
  have hxn : x < nr := by omega
  have hyn : y < nr' := by omega
  have hnr : nr ≤ 1001 := by omega
  have hnr' : nr' ≤ 1001 := by omega
  clear hb0 hk1 hk2 hk3 hc1 hc2 ha hb hna hnb
  by_cases hr : 0 ≤ rule
  · have d0 : decide (0 ≤ rule) = true := decide_eq_true hr
    have HT : Hid (hitD la lb rule (x, y) = (rul la x == rule)) := Lib.hid (by unfold hitD; rw [if_pos hr])
    generalize rul la x = ra at *
    generalize rul lb y = rb at *
    have z1A := z1
    rw [hW0] at z1A
    go_enter Tryz.func42, Tryz.ntmps42
    go_wp2_with fail
    rw [← hW0]
    clear hW0
    go_ret
    exact ⟨by rw [HT.out]; rfl, by rw [HG.out]; exact HB0.out⟩
  · have d0 : decide (0 ≤ rule) = false := decide_eq_false hr
    have HT : Hid (hitD la lb rule (x, y) = (rul la x != rul lb y)) := Lib.hid (by unfold hitD; rw [if_neg hr])
    generalize rul la x = ra at *
    generalize rul lb y = rb at *
    go_enter Tryz.func42, Tryz.ntmps42
    go_wp2_with fail
    rw [← hW0]
    clear hW0
    go_wp2_with fail
    go_quiet (fail)
    go_wp2_with fail
    go_ret
    exact ⟨by rw [HT.out]; rfl, by rw [HG.out]; exact HB0.out.trans ⟨rfl, rfl, rfl, Nat.le_refl _, fun _ _ => rfl⟩⟩
end Go.Proofs.YtkcpfpofimkkiaaGreatDoor
namespace Go.Proofs.YtkcpfpofimkkiaaGreatDoor
set_option linter.unusedVariables false
set_option linter.unusedSimpArgs false

section
variable {rule : Nat → Int} {mv : Nat → Nat → Nat} {K m : Nat} {o at_ : Nat → Nat} {part : Nat → Nat}
/-- Part k stands for state s. -/
def StandsFor (m : Nat) (o part : Nat → Nat) (k s : Nat) : Prop := ∃ i, i < m ∧ o i = s ∧ part i = k
/-- The first of a part. -/
def fstOf (m : Nat) (part : Nat → Nat) (k : Nat) : Nat := (List.range m).findIdx fun i => part i == k
theorem fstOf_spec {i : Nat} (hi : i < m) : fstOf m part (part i) < m ∧ part (fstOf m part (part i)) = part i := by
  have hlt : fstOf m part (part i) < (List.range m).length := List.findIdx_lt_length_of_exists ⟨i, List.mem_range.2 hi, by simp⟩
  have h := List.findIdx_getElem (xs := List.range m) (p := fun j => part j == part i) (w := hlt)
  have h2 : part ((List.range m)[fstOf m part (part i)]'hlt) = part i := eq_of_beq h
  have h3 : (List.range m)[fstOf m part (part i)]'hlt = fstOf m part (part i) := List.getElem_range hlt
  exact ⟨by rw [List.length_range] at hlt; exact hlt, (congrArg part h3).symm.trans h2⟩
structure PartsR (rule : Nat → Int) (mv : Nat → Nat → Nat) (K m : Nat) (o at_ part : Nat → Nat) : Prop where
  at_ : ∀ i c, i < m → c < K → at_ (mv (o i) c) < m ∧ o (at_ (mv (o i) c)) = mv (o i) c
  iff : ∀ i j, i < m → j < m → (part i = part j ↔ Eqv rule mv (· < K) (o i) (o j))
theorem PartsR.ru (h : PartsR rule mv K m o at_ part) {k s : Nat} (hR : StandsFor m o part k s) : rule (o (fstOf m part k)) = rule s := by
  obtain ⟨i, hi, rfl, rfl⟩ := hR
  obtain ⟨h1, h2⟩ := fstOf_spec (part := part) hi
  exact ((h.iff _ _ h1 hi).1 h2).ru
theorem PartsR.step (h : PartsR rule mv K m o at_ part) {k s c : Nat} (hR : StandsFor m o part k s) (hc : c < K) : StandsFor m o part (part (at_ (mv (o (fstOf m part k)) c))) (mv s c) := by
  obtain ⟨i, hi, rfl, rfl⟩ := hR
  obtain ⟨h1, h2⟩ := fstOf_spec (part := part) hi
  have he := ((h.iff _ _ h1 hi).1 h2).st hc
  obtain ⟨a1, a2⟩ := h.at_ i c hi hc
  obtain ⟨b1, b2⟩ := h.at_ _ c h1 hc
  exact ⟨_, a1, a2, (h.iff _ _ a1 b1).2 (by rw [a2, b2]; exact he.symm)⟩
theorem PartsR.same (h : PartsR rule mv K m o at_ part) {k s k' s' : Nat} (hR : StandsFor m o part k s) (hR' : StandsFor m o part k' s') : k = k' ↔ Eqv rule mv (· < K) s s' := by
  obtain ⟨i, hi, rfl, rfl⟩ := hR
  obtain ⟨j, hj, rfl, rfl⟩ := hR'
  exact h.iff i j hi hj
end

/-! ### the document's table of what differs -/
section
variable (rule : Nat → Int) (mv : Nat → Nat → Nat) (K n : Nat)
structure ApI (d : Nat → Nat → Bool) : Prop where
  sym : ∀ s t, s < n → t < n → d s t = d t s
  diag : ∀ s, s < n → d s s = false
  base : ∀ s t, s < n → t < n → rule s ≠ rule t → d s t = true
  sound : ∀ s t, s < n → t < n → d s t = true → ¬ Eqv rule mv (· < K) s t
variable {rule mv K n}
theorem ApI.start : ApI rule mv K n (fun s t => decide (rule s ≠ rule t)) :=
  ⟨fun s t _ _ => by simp only [ne_eq, eq_comm], fun s _ => by simp, fun s t _ _ h => by simpa using h, fun s t _ _ h e => by simp at h; exact h e.ru⟩
/-- The table with a pair marked, both ways. -/
def mark (d : Nat → Nat → Bool) (i k : Nat) : Nat → Nat → Bool := fun s t => if (s = i ∧ t = k) ∨ (s = k ∧ t = i) then true else d s t
theorem ApI.mark {d : Nat → Nat → Bool} (h : ApI rule mv K n d) {i k c : Nat} (hi : i < n) (hk : k < i) (hmv : ∀ s c, s < n → c < K → mv s c < n) (hc : c < K) (hd : d (mv i c) (mv k c) = true) : ApI rule mv K n (mark d i k) := by
  have hne : ¬ Eqv rule mv (· < K) i k := fun e => h.sound _ _ (hmv i c hi hc) (hmv k c (by omega) hc) hd (e.st hc)
  refine ⟨fun s t hs ht => ?_, fun s hs => ?_, fun s t hs ht hr => ?_, fun s t hs ht hm e => ?_⟩
  · unfold Go.Proofs.YtkcpfpofimkkiaaGreatDoor.mark
    by_cases q : (s = i ∧ t = k) ∨ (s = k ∧ t = i)
    · rw [if_pos q, if_pos (by omega)]
    · rw [if_neg q, if_neg (by omega)]; exact h.sym s t hs ht
  · unfold Go.Proofs.YtkcpfpofimkkiaaGreatDoor.mark
    rw [if_neg (by omega)]; exact h.diag s hs
  · unfold Go.Proofs.YtkcpfpofimkkiaaGreatDoor.mark
    split
    · rfl
    · exact h.base s t hs ht hr
  · unfold Go.Proofs.YtkcpfpofimkkiaaGreatDoor.mark at hm
    split at hm
    · rename_i q
      rcases q with ⟨rfl, rfl⟩ | ⟨rfl, rfl⟩
      · exact hne e
      · exact hne e.symm
    · exact h.sound s t hs ht hm e
theorem ApI.done {d : Nat → Nat → Bool} (h : ApI rule mv K n d) (hmv : ∀ s c, s < n → c < K → mv s c < n) (h2 : ∀ s t c, s < n → t < s → c < K → d (mv s c) (mv t c) = true → d s t = true) {s t : Nat} (hs : s < n) (ht : t < n) : d s t = false ↔ Eqv rule mv (· < K) s t :=
  apart_iff hmv h.sym h.diag h.base h2 h.sound hs ht
/-- How many pairs are not marked. -/
def leftD (n : Nat) (d : Nat → Nat → Bool) : Nat := ((List.range n).map fun s => ((List.range n).countP fun t => !d s t)).sum
end
end Go.Proofs.YtkcpfpofimkkiaaGreatDoor
