/- Acts that fit: the program's fits. · The machine's act: what is to be done in the state on top, ahead of a terminal. -/
import Derived.Test.YtinejiodnnjpgaaDoorQ8
import Derived.Test.YtinejiodnnjpgaaDoorQ2
import Derived.Test.YtinejiodnnjpgaaDoorQ6
import Derived.Deep.QuietTactic
import Derived.BigQuiet
import Derived.Test.YtinejiodnnjpgaaDoorQ12
import Derived.Test.YtinejiodnnjpgaaDoorQ13
import Derived.Test.YtinejiodnnjpgaaDoorQ14
import Derived.BigRegion
import Derived.Laws.ResultCell
namespace Go.Proofs.YtinejiodnnjpgaaDoor
open Go.RowKit BigFrame
set_option linter.unusedVariables false
set_option linter.unusedSimpArgs false
set_option maxRecDepth 100000

theorem abox (w : World) (k to : Int) : Below w.heap.size w (w.alloc (.cells #[.int .i64 k, .int .i64 to] 82)) := (Below.refl _ _).alloc (Nat.le_refl _) _
set_option maxHeartbeats 4000000 in
theorem fits_any (k to : Int) (fin : Bool) (n np : Int) (w : World) :
    Calls Tryd.prog 34 #[.agg #[.int .i64 k, .int .i64 to], .bool fin, .int .i64 n, .int .i64 np] w fun e w' => e = .returned (.bool (decide (fitA (k, to) fin n np))) ∧ Below w.heap.size w w' := by
  have HB := Lib.hid (abox w k to)
  have HF : Hid (decide (fitA (k, to) fin n np) = (decide (k = 0) && decide (to = 0) || decide (k = 3) && decide (to = 0) && fin || decide (k = 1) && decide (0 ≤ to) && decide (to < n) && !fin || decide (k = 2) && decide (0 ≤ to) && decide (to < np))) := Lib.hid (by
    rw [Bool.eq_iff_iff, decide_eq_true_iff]
    simp [fitA, and_assoc, or_assoc])
  rw [HF.out]
  clear HF
  by_cases k0 : k = 0
  · as_aux_lemma =>
      subst k0
      simp only [Int.reduceEq, decide_true, decide_false, Bool.true_and, Bool.false_and, Bool.or_false, Bool.false_or]
      cases fin
      all_goals
        by_cases a0 : 0 ≤ to
        all_goals
          by_cases a1 : to < n
          all_goals
            by_cases a2 : to < np
            all_goals
              by_cases a3 : to = 0
              all_goals
                try (exfalso; omega)
              all_goals try subst a3
              all_goals
                go_enter Tryd.func34, Tryd.ntmps34
                go_wp2_with fail
                go_ret
                exact ⟨ret_eq (by simp [*] <;> omega), HB.out⟩
  by_cases k1 : k = 1
  · as_aux_lemma =>
      subst k1
      simp only [Int.reduceEq, decide_true, decide_false, Bool.true_and, Bool.false_and, Bool.or_false, Bool.false_or]
      cases fin
      all_goals
        by_cases a0 : 0 ≤ to
        all_goals
          by_cases a1 : to < n
          all_goals
            by_cases a2 : to < np
            all_goals
              by_cases a3 : to = 0
              all_goals
                try (exfalso; omega)
              all_goals try subst a3
              all_goals
                go_enter Tryd.func34, Tryd.ntmps34
                go_wp2_with fail
                go_ret
                exact ⟨ret_eq (by simp [*] <;> omega), HB.out⟩
  by_cases k2 : k = 2
  · as_aux_lemma =>
      subst k2
      simp only [Int.reduceEq, decide_true, decide_false, Bool.true_and, Bool.false_and, Bool.or_false, Bool.false_or]
      cases fin
      all_goals
        by_cases a0 : 0 ≤ to
        all_goals
          by_cases a1 : to < n
          all_goals
            by_cases a2 : to < np
            all_goals
              by_cases a3 : to = 0
              all_goals
                try (exfalso; omega)
              all_goals try subst a3
              all_goals
                go_enter Tryd.func34, Tryd.ntmps34
                go_wp2_with fail
                go_ret
                exact ⟨ret_eq (by simp [*] <;> omega), HB.out⟩
  by_cases k3 : k = 3
  · as_aux_lemma =>
      subst k3
      simp only [Int.reduceEq, decide_true, decide_false, Bool.true_and, Bool.false_and, Bool.or_false, Bool.false_or]
      cases fin
      all_goals
        by_cases a0 : 0 ≤ to
        all_goals
          by_cases a1 : to < n
          all_goals
            by_cases a2 : to < np
            all_goals
              by_cases a3 : to = 0
              all_goals
                try (exfalso; omega)
              all_goals try subst a3
              all_goals
                go_enter Tryd.func34, Tryd.ntmps34
                go_wp2_with fail
                go_ret
                exact ⟨ret_eq (by simp [*] <;> omega), HB.out⟩
  as_aux_lemma =>
    have e0 : (k == 0) = false := by simpa using k0
    have e1 : (k == 1) = false := by simpa using k1
    have e2 : (k == 2) = false := by simpa using k2
    have e3 : (k == 3) = false := by simpa using k3
    go_enter Tryd.func34, Tryd.ntmps34
    go_wp2_with fail
    go_ret
    exact ⟨ret_eq (by simp [*]), HB.out⟩
end Go.Proofs.YtinejiodnnjpgaaDoor
namespace Go.Proofs.YtinejiodnnjpgaaDoor
open Go.RowKit BigFrame
set_option linter.unusedVariables false
set_option linter.unusedSimpArgs false
set_option maxRecDepth 100000

theorem results_cell_tmp_row {P : Program} {fn : Func} {p u : Tmp} {ty : TypeId} (h : fn.results = #[.cell p ty, .tmp u]) (tmps : Array Value) (w : World) (g : Nat) (t : TypeId) (cs : Array Value) (fr : Nat × Nat) (d : TypeDesc)
    (hp : tmps.getD p undef = .pointer (some ⟨g, 0, none⟩)) (hg : w.heap[g]? = some (.cells cs t fr))
    (hu : P.underlying ty = some d) (hd : (match d with | .struct _ | .array _ _ => true | _ => false) = true) (hi : (P.info? ty).map (·.size) = some cs.size) :
    (results fn tmps).run P w = .ok (.tuple #[.agg cs, tmps.getD u undef]) w := by
  rw [results_cell_tmp h, hp]
  simp [asAddr, Result.andThen, run_loadVar_row w g t ty cs fr d hg hu hd hi]
theorem results_cell_tmp2_row {P : Program} {fn : Func} {p u v : Tmp} {ty : TypeId} (h : fn.results = #[.cell p ty, .tmp u, .tmp v]) (tmps : Array Value) (w : World) (g : Nat) (t : TypeId) (cs : Array Value) (fr : Nat × Nat) (d : TypeDesc)
    (hp : tmps.getD p undef = .pointer (some ⟨g, 0, none⟩)) (hg : w.heap[g]? = some (.cells cs t fr))
    (hu : P.underlying ty = some d) (hd : (match d with | .struct _ | .array _ _ => true | _ => false) = true) (hi : (P.info? ty).map (·.size) = some cs.size) :
    (results fn tmps).run P w = .ok (.tuple #[.agg cs, tmps.getD u undef, tmps.getD v undef]) w := by
  have hp' : tmps[p]?.getD undef = .pointer (some ⟨g, 0, none⟩) := by simpa using hp
  simp [results, h, hp', asAddr, run_loadVar_row w g t ty cs fr d hg hu hd hi, Sem.run_bind, Result.andThen]
/-- The cells that lead from the row of states and the table to the act. -/
theorem act_road {w : World} {B base : Nat} {G : Gr} {T : Tb} {Aa Ag : Option Addr} {na ca ng cg : Nat} {sv : Value} {ss : List Int} {ts : List Tr} (hr : w.ownsRow base 3 1 sv ss.length (iv ss)) (hT : TbIn w B T Aa na ca Ag ng cg) (hf : TFits G T) {term : Int} (h0 : 0 ≤ term) (h1 : term ≤ G.terms) (hs : StOk G T (ss, ts)) :
    ∃ (sb cs s ab ao rb ro n1 c1 k : Nat), term = (k : Int) ∧ k < n1 ∧ n1 ≤ c1 ∧ c1 ≤ maxLen ∧ sv = .slice (some ⟨sb, 0, none⟩) (ts.length + 1) cs ∧ ts.length + 1 ≤ cs ∧ cs ≤ maxLen ∧ sb < w.heap.size ∧ w.cell? ⟨sb, ts.length, none⟩ = some (.int .i64 (s : Int)) ∧ s < na ∧ Aa = some ⟨ab, ao, none⟩ ∧ ab < B ∧
      w.cell? ⟨ab, ao + s, none⟩ = some (.slice (some ⟨rb, ro, none⟩) n1 c1) ∧ rb < B ∧ w.cell? ⟨rb, ro + k * 2, none⟩ = some (.int .i64 (actAt T (topS (ss, ts)) term).1) ∧ w.cell? ⟨rb, ro + k * 2 + 1, none⟩ = some (.int .i64 (actAt T (topS (ss, ts)) term).2) ∧ na ≤ ca ∧ ca ≤ maxLen := by
  have hl : ss.length = ts.length + 1 := hs.l
  obtain ⟨q0, q1⟩ := hs.top
  obtain ⟨sb, cs, e1, hc1, hc2, hsb, _, hcell⟩ := own_at hr (by omega)
  obtain ⟨hla, hca, hma⟩ := shL_len hT.a
  have hn0 := hf.n0
  obtain ⟨ab, ao, rfl, hab, hac⟩ := hT.a.at_ (by omega)
  obtain ⟨s, hse⟩ := Int.eq_ofNat_of_zero_le q0
  obtain ⟨k, hke⟩ := Int.eq_ofNat_of_zero_le h0
  have hsn : s < na := by omega
  obtain ⟨A1, n1, c1, x1, x2, x3, x4, x5⟩ := hac s hsn
  have hrow := hf.row s (by omega)
  have hal := hrow.al
  obtain ⟨rb, ro, rfl, hrb, hrc⟩ := x5.at_ (by omega)
  obtain ⟨v1, v2⟩ := hrc k (by omega)
  refine ⟨sb, cs, s, ab, ao, rb, ro, n1, c1, k, hke, by omega, x3, x4, by rw [e1, hl], by omega, hc2, hsb, ?_, hsn, rfl, hab, x1, hrb, ?_, ?_, hca, hma⟩
  · have h3 : (iv ss)[ts.length]? = some (.int .i64 (s : Int)) := by
      rw [iv_get (by omega)]
      have : topS (ss, ts) = nth ss ts.length := by unfold topS; simp [hl]
      rw [← this, hse]
    exact hcell ts.length _ h3
  · rw [v1]; unfold actAt; rw [hse, hke]; simp
  · rw [v2]; unfold actAt; rw [hse, hke]; simp

set_option maxHeartbeats 4000000 in
theorem act_any (G : Gr) (Ap Al As : Option Addr) (np cp nl cl ns cs : Nat) (T : Tb) (Aa : Option Addr) (na ca : Nat) (Ag : Option Addr) (ng cg : Nat) (tc : Value) (w : World) (B base m : Nat) (sv tv : Value) (ss : List Int) (ts : List Tr) (vs : List Value) (U : Nat → Prop)
    (hM : MachV w base m (hdM G Ap Al As np cp nl cl ns cs (.slice Aa na ca) (.slice Ag ng cg) tc) sv tv ss ts vs U) (hB : B ≤ w.heap.size) (hT : TbIn w B T Aa na ca Ag ng cg) (hf : TFits G T) (term : Int) (h0 : 0 ≤ term) (h1 : term ≤ G.terms) (hs : StOk G T (ss, ts)) :
    Calls Tryd.prog 53 #[.pointer (some ⟨m, 0, none⟩), .int .i64 term] w fun e w' => e = .returned (.agg #[.int .i64 (actAt T (topS (ss, ts)) term).1, .int .i64 (actAt T (topS (ss, ts)) term).2]) ∧ Below w.heap.size w w' := by
  obtain ⟨sb, cs, s, ab, ao, rb, ro, n1, c1, k, rfl, hk, g1, g2, rfl, g3, g4, hsb, y1, hsn, rfl, hab, y2, hrb, y3, y4, g5, g6⟩ := act_road hM.s hT hf h0 h1 hs
  have hmlt := hM.lt
  have z9 := hM.c9
  have z6 : w.cell? ⟨m, 6, none⟩ = some (.slice (some ⟨ab, ao, none⟩) na ca) := hM.b.cell rfl
  unfold maxLen at g2 g4 g6
  generalize (actAt T (topS (ss, ts)) (k : Int)).1 = a1 at *
  generalize (actAt T (topS (ss, ts)) (k : Int)).2 = a2 at *
  clear hM hT hf hs h0 h1
  generalize ts.length = tl at *
  go_enter Tryd.func53, Tryd.ntmps53
  go_wp2_with fail
  refine wp_region_still_tail 22 (by kernel_rfl) (by kernel_rfl) ?_
  simp only [List.take_succ_cons, List.take_zero, List.drop_succ_cons, List.drop_zero]
  obtain ⟨w1, hw1⟩ : ∃ w1, w1 = w.alloc (.cells #[.int .i64 0, .int .i64 0] 82) := ⟨_, rfl⟩
  have hb1 : Below w.heap.size w w1 := by rw [hw1]; exact (Below.refl _ _).alloc (Nat.le_refl _) _
  have x6 : w1.cell? ⟨m, 6, none⟩ = some (.slice (some ⟨ab, ao, none⟩) na ca) := (hb1.cell (p := ⟨m, 6, none⟩) hmlt).trans z6
  have x9 := (hb1.cell (p := ⟨m, 9, none⟩) hmlt).trans z9
  have x1 := (hb1.cell (p := ⟨sb, tl, none⟩) hsb).trans y1
  have x2 := (hb1.cell (p := ⟨ab, ao + s, none⟩) (Nat.lt_of_lt_of_le hab hB)).trans y2
  have x3 := (hb1.cell (p := ⟨rb, ro + k * 2, none⟩) (Nat.lt_of_lt_of_le hrb hB)).trans y3
  have x4 := (hb1.cell (p := ⟨rb, ro + k * 2 + 1, none⟩) (Nat.lt_of_lt_of_le hrb hB)).trans y4
  have HB1 := Lib.hid hb1
  clear z9 z6 y1 y2 y3 y4 hb1
  rw [← hw1]
  have hbk : Blk w1 w.heap.size 82 [.int .i64 0, .int .i64 0] := by rw [hw1]; exact Blk.new _ _ _
  have e0 := hbk.cell (i := 0) rfl
  have e1 := hbk.cell (i := 1) rfl
  have e2 := hbk.frozen 0
  have e3 := hbk.frozen 1
  have HK := Lib.hid hbk
  clear hbk hw1
  change wpStill _ _ w1.drew (fun a' => wpList _ _ _ _ a' w1.drew) _ _
  refine wpStill_of_quiet _ _ ?_
  repeat (first | go_big_quiet_skip | (go_big_quiet_want; go_big_quiet_op; go_big_quiet_on))
  refine wpQuiet_nil ?_
  go_wp2_with fail
  have hk2 := (HK.out.set_ 0 (.int .i64 a1)).set_ 1 (.int .i64 a2)
  refine bodyPost_ret (results_cell_row rfl _ _ w.heap.size _ #[.int .i64 a1, .int .i64 a2] _ _ rfl hk2 Tryd.underlying82 rfl (by kernel_rfl)) rfl ?_
  have h9 : Below w.heap.size w ((w1.setCell ⟨w.heap.size, 0, none⟩ (.int .i64 a1)).setCell ⟨w.heap.size, 1, none⟩ (.int .i64 a2)) := (HB1.out.setCell (p := ⟨w.heap.size, 0, none⟩) (Nat.le_refl _) _).setCell (p := ⟨w.heap.size, 1, none⟩) (Nat.le_refl _) _
  exact ⟨rfl, h9.trans ⟨rfl, rfl, rfl, Nat.le_refl _, fun _ _ => rfl⟩⟩

theorem stop_any (p : Value) (k to : Int) (w : World) (B : Nat) (hB : B ≤ w.heap.size) (E : Nat → Addr) (hE : ErW w B E) :
    Calls Tryd.prog 54 #[p, .agg #[.int .i64 k, .int .i64 to]] w fun e w' => e = .returned (.tuple #[.bool true, ew (E 6)]) ∧ Below w.heap.size w w' := by
  have hb := abox w k to
  have z := ((hE.below (hb.mono hB)).g 6 (by omega))
  have HB := Lib.hid hb
  unfold evar at z
  clear hE hb
  go_enter Tryd.func54, Tryd.ntmps54
  go_wp2_with fail
  go_quiet (fail)
  go_wp2_with fail
  go_ret2
  exact ⟨rfl, HB.out.trans (bel_dn _ _ _)⟩
theorem shift_any (p : Value) (k to : Int) (w : World) :
    Calls Tryd.prog 55 #[p, .agg #[.int .i64 k, .int .i64 to]] w fun e w' => e = .returned (.tuple #[.bool true, .nilIface]) ∧ Below w.heap.size w w' := by
  have HB := Lib.hid (abox w k to)
  go_enter Tryd.func55, Tryd.ntmps55
  go_wp2_with fail
  go_ret2
  exact ⟨rfl, HB.out⟩
end Go.Proofs.YtinejiodnnjpgaaDoor
