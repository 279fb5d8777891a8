/- The law RepairCost walked: it returns true. -/
import Derived.Test.YtgfchgnebpogjaaRepG
import Derived.Test.YtgfchgnebpogjaaSh
import Derived.Test.YtgfchgnebpogjaaOpen
import Derived.Test.YtgfchgnebpogjaaCls
namespace Go.Proofs.Ytgfchgnebpogjaa
open Go.RowKit BigFrame
set_option linter.unusedVariables false
set_option linter.unusedSimpArgs false
set_option maxRecDepth 100000

theorem rdI_sh {w : World} {B : Nat} {l : List Int} {A : Option Addr} {n c : Nat} (h : (shL shInt).rd w (Lo B) l [.slice A n c]) : l.length = n ∧ n ≤ c ∧ c ≤ maxLen ∧ RdI w B A l := by
  obtain ⟨A', c', css, e, h1, h2, h3, h4, h5⟩ := h
  simp at e
  obtain ⟨rfl, rfl, rfl⟩ := e
  have hcs : css = l.map (fun x => [Value.int .i64 x]) := by
    apply List.ext_getElem?
    intro i
    rw [List.getElem?_map]
    by_cases hi : i < l.length
    · have h := h4 i l[i] (css[i]'(by omega)) (List.getElem?_eq_getElem hi) (List.getElem?_eq_getElem (by omega))
      rw [List.getElem?_eq_getElem hi, List.getElem?_eq_getElem (by omega : i < css.length), h.1]; rfl
    · rw [List.getElem?_eq_none (by omega), List.getElem?_eq_none (by omega)]; rfl
  have hf : css.flatten = l.map (Value.int .i64) := by
    rw [hcs]
    clear hcs h4 h5 h3 h1
    induction l with
    | nil => rfl
    | cons x l ih => simp only [List.map_cons, List.flatten_cons, ih]; rfl
  refine ⟨rfl, h1, h2, fun hne => ?_⟩
  obtain ⟨b, off, e, hb, hc⟩ := h5 (by rw [hf]; exact hne)
  exact ⟨b, off, e, hb, fun j u hu => hc j u (by rw [hf]; exact hu)⟩

theorem opens_Ints : Opens Try.prog 22 (shL shInt) := opens_slice Try.underlying22 (by kernel_rfl) (by decide) (opens_int Try.underlying3 (by kernel_rfl))
theorem opens_Costs : Opens Try.prog 24 (shP (shL shInt) (shL shInt)) :=
  opens_struct Try.underlying24 (by kernel_rfl) (opF_cons rfl opens_Ints (opF_one rfl opens_Ints))

/-- The costs that came in. -/
def IsCosts (W : World) (v : Value) : Prop := ∃ A1 c1 n1 A2 c2 n2 P L, v = .agg #[.slice A1 n1 c1, .slice A2 n2 c2] ∧ List.length P = n1 ∧ n1 ≤ maxLen ∧ RdI W W.heap.size A1 P ∧ List.length L = n2 ∧ n2 ≤ maxLen ∧ RdI W W.heap.size A2 L
theorem open_IsCosts {H : Type} {enc : TypeId × Value → H} {W : World} {base : Nat} {r : Reach} {b0 : Nat} {v : Value} {d : DataW H} {p : List MemPlace} {held : Bool}
    (hv : Value.okWide Try.prog W r b0 24 v) (h : DataW.Trod enc Try.prog W base (fun _ => true) held 24 v d p) : IsCosts W v := by
  obtain ⟨cs, rfl, hsz⟩ := Go.WideShapes.okWide_struct Try.underlying24 hv
  obtain ⟨⟨P, L⟩, c, d, e, h1, h2⟩ := isIn_of opens_Costs h
  obtain ⟨A1, c1, e1, f1, g1⟩ := shL_form h1
  obtain ⟨A2, c2, e2, f2, g2⟩ := shL_form h2
  subst e1 e2
  have e' : cs = #[.slice A1 P.length c1, .slice A2 L.length c2] := by
    apply Array.ext'
    simpa [Value.cells] using e
  subst e'
  obtain ⟨_, _, _, r1⟩ := rdI_sh h1
  obtain ⟨_, _, _, r2⟩ := rdI_sh h2
  exact ⟨A1, c1, _, A2, c2, _, P, L, rfl, rfl, Nat.le_trans f1 g1, r1, rfl, Nat.le_trans f2 g2, r2⟩

theorem fewCosts_any (A1 A2 : Option Addr) (n1 c1 n2 c2 : Nat) (w : World) (m1 : n1 ≤ maxLen) (m2 : n2 ≤ maxLen) :
    Calls Try.prog 7 #[.agg #[.slice A1 n1 c1, .slice A2 n2 c2]] w fun e w' => e = .returned (.bool (decide (n1 ≤ 10 ∧ n2 ≤ 10))) ∧ Below w.heap.size w w' := by
  unfold maxLen at m1 m2
  have hb0 : Below w.heap.size w (w.alloc (.cells #[.slice A1 n1 c1, .slice A2 n2 c2] 24)) := (Below.refl _ _).alloc (Nat.le_refl _) _
  by_cases h1 : n1 ≤ 10
  · have d1 : decide ((n1 : Int) ≤ 10) = true := decide_eq_true (by omega)
    by_cases h2 : n2 ≤ 10
    · have d2 : decide ((n2 : Int) ≤ 10) = true := decide_eq_true (by omega)
      have hf := Lib.hid (decide_eq_true (And.intro h1 h2))
      go_enter Try.func7, Try.ntmps7
      go_wp2
      go_ret
      exact ⟨ret_eq (by rw [hf.out]; rfl), hb0⟩
    · have d2 : decide ((n2 : Int) ≤ 10) = false := decide_eq_false (by omega)
      have hf := Lib.hid (decide_eq_false (show ¬ (n1 ≤ 10 ∧ n2 ≤ 10) by omega))
      go_enter Try.func7, Try.ntmps7
      go_wp2
      go_ret
      exact ⟨ret_eq (by rw [hf.out]; rfl), hb0⟩
  · have d1 : decide ((n1 : Int) ≤ 10) = false := decide_eq_false (by omega)
    have hf := Lib.hid (decide_eq_false (show ¬ (n1 ≤ 10 ∧ n2 ≤ 10) by omega))
    go_enter Try.func7, Try.ntmps7
    go_wp2
    go_ret
    exact ⟨ret_eq (by rw [hf.out]; rfl), hb0⟩

theorem rcost_any (A1 A2 A3 A4 : Option Addr) (n1 c1 n2 c2 n3 c3 n4 c4 : Nat) (P L F T : List Int) (w : World) (B : Nat) (hB : B ≤ w.heap.size)
    (h1 : RdI w B A1 P) (h2 : RdI w B A2 L) (h3 : RdI w B A3 F) (h4 : RdI w B A4 T) (l1 : P.length = n1) (l2 : L.length = n2) (l3 : F.length = n3) (l4 : T.length = n4)
    (m1 : n1 ≤ maxLen) (m2 : n2 ≤ maxLen) (m3 : n3 ≤ maxLen) (m4 : n4 ≤ maxLen) :
    Calls Try.prog 9 #[.agg #[.slice A1 n1 c1, .slice A2 n2 c2], .slice A3 n3 c3, .slice A4 n4 c4] w fun e w' => e = .returned (.int .i64 (costA P L F T)) ∧ Below w.heap.size w w' := by
  by_cases hg : P.all costB = true ∧ L.all costB = true ∧ F.all (insB (min (n1 : Int) n2)) = true ∧ T.all (insB (min (n1 : Int) n2)) = true ∧ n3 ≤ 1000 ∧ n4 ≤ 1000
  · refine (rcost_good A1 A2 A3 A4 n1 c1 n2 c2 n3 c3 n4 c4 P L F T w B hB h1 h2 h3 h4 l1 l2 l3 l4 m1 m2 hg.2.2.2.2.1 hg.2.2.2.2.2 hg.1 hg.2.1 hg.2.2.1 hg.2.2.2.1).mono ?_
    rintro e w' ⟨rfl, hb⟩
    refine ⟨ret_eq ?_, hb⟩
    unfold costA
    rw [l1, l2, l3, l4, if_pos hg, eb_0]
  · refine (rcost_bad A1 A2 A3 A4 n1 c1 n2 c2 n3 c3 n4 c4 P L F T w B hB h1 h2 h3 h4 l1 l2 l3 l4 m1 m2 m3 m4 hg).mono ?_
    rintro e w' ⟨rfl, hb⟩
    refine ⟨ret_eq ?_, hb⟩
    unfold costA
    rw [l1, l2, l3, l4, if_neg hg]

theorem walk_RepairCost (w : World) (v : Value) (hv : IsCosts w v) (v1 : Value) (hv1 : IsInts w v1) (v2 : Value) (hv2 : IsInts w v2) :
    Calls Try.prog 3 #[v, v1, v2] w fun e w' => e = .returned (.bool true) ∧ Below w.heap.size w w' := by
  obtain ⟨A1, c1, n1, A2, c2, n2, P, L, rfl, l1, m1, h1, l2, m2, h2⟩ := hv
  obtain ⟨A3, n3, c3, F, rfl, l3, lc3, m3, h3, _⟩ := hv1
  obtain ⟨A4, n4, c4, T, rfl, l4, lc4, m4, h4, _⟩ := hv2
  have hb0 : Below w.heap.size w (w.alloc (.cells #[.slice A1 n1 c1, .slice A2 n2 c2] 24)) := (Below.refl _ _).alloc (Nat.le_refl _) _
  have hc0 : (w.alloc (.cells #[.slice A1 n1 c1, .slice A2 n2 c2] 24)).cell? ⟨w.heap.size, 0, none⟩ = some (.slice A1 n1 c1) := by simp
  have hc1 : (w.alloc (.cells #[.slice A1 n1 c1, .slice A2 n2 c2] 24)).cell? ⟨w.heap.size, 1, none⟩ = some (.slice A2 n2 c2) := by simp
  have hs0 : (w.alloc (.cells #[.slice A1 n1 c1, .slice A2 n2 c2] 24)).heap.size = w.heap.size + 1 := by simp
  have hfew := fewCosts_any A1 A2 n1 c1 n2 c2 (w.alloc (.cells #[.slice A1 n1 c1, .slice A2 n2 c2] 24)) m1 m2
  rw [hs0] at hfew
  have HF := Lib.hid hfew; clear hfew
  have key : ∀ w1 : World, Below (w.heap.size + 1) (w.alloc (.cells #[.slice A1 n1 c1, .slice A2 n2 c2] 24)) w1 → ∀ X : WB (w.heap.size + 1) w1,
      X.val.cell? ⟨w.heap.size, 0, none⟩ = some (.slice A1 n1 c1) ∧ X.val.cell? ⟨w.heap.size, 1, none⟩ = some (.slice A2 n2 c2) ∧
      Calls Try.prog 8 #[.agg #[.slice A1 n1 c1, .slice A2 n2 c2], .slice A3 n3 c3, .slice A4 n4 c4] X.val (fun e w' => e = .returned (.int .i64 (costA P L F T)) ∧ Below X.val.heap.size X.val w') ∧
      Calls Try.prog 9 #[.agg #[.slice A1 n1 c1, .slice A2 n2 c2], .slice A3 n3 c3, .slice A4 n4 c4] X.val (fun e w' => e = .returned (.int .i64 (costA P L F T)) ∧ Below X.val.heap.size X.val w') := by
    intro w1 hb1 X
    have hx := hb1.trans X.bel
    have hxw : Below w.heap.size w X.val := hb0.trans (hx.mono (Nat.le_succ _))
    exact ⟨(hx.cell (p := ⟨w.heap.size, 0, none⟩) (by simp)).trans hc0, (hx.cell (p := ⟨w.heap.size, 1, none⟩) (by simp)).trans hc1,
      cost_any A1 A2 A3 A4 n1 c1 n2 c2 n3 c3 n4 c4 P L F T X.val w.heap.size hxw.size (h1.below hxw) (h2.below hxw) (h3.below hxw) (h4.below hxw) l1 l2 l3 l4 m1 m2 (by omega) (by omega),
      rcost_any A1 A2 A3 A4 n1 c1 n2 c2 n3 c3 n4 c4 P L F T X.val w.heap.size hxw.size (h1.below hxw) (h2.below hxw) (h3.below hxw) (h4.below hxw) l1 l2 l3 l4 m1 m2 (by omega) (by omega)⟩
  unfold maxLen at m1 m2 m3 m4
  have HKEY := Lib.hid key; clear key
  have HB0 := Lib.hid hb0; clear hb0
  clear l1 l2 l3 l4 h1 h2 h3 h4 hc0 hc1 hs0
  generalize costA P L F T = r at HKEY
  by_cases hq : n1 ≤ 10 ∧ n2 ≤ 10
  · rw [decide_eq_true hq] at HF
    by_cases hn3 : (40 : Int) < n3
    · have d3 : decide ((40 : Int) < n3) = true := decide_eq_true hn3
      go_enter Try.func3, Try.ntmps3
      go_wp2_with (go_at_call 7; refine HF.out.mono ?_; rintro e w1 ⟨rfl, hb1⟩)
      go_ret
      exact ⟨rfl, HB0.out.trans (hb1.mono (Nat.le_succ _))⟩
    have d3 : decide ((40 : Int) < n3) = false := decide_eq_false hn3
    by_cases hn4 : (40 : Int) < n4
    · have d4 : decide ((40 : Int) < n4) = true := decide_eq_true hn4
      go_enter Try.func3, Try.ntmps3
      go_wp2_with (go_at_call 7; refine HF.out.mono ?_; rintro e w1 ⟨rfl, hb1⟩)
      go_ret
      exact ⟨rfl, HB0.out.trans (hb1.mono (Nat.le_succ _))⟩
    have d4 : decide ((40 : Int) < n4) = false := decide_eq_false hn4
    go_enter Try.func3, Try.ntmps3
    go_wp2_with (go_at_call 7; refine HF.out.mono ?_; rintro e w1 ⟨rfl, hb1⟩)
    have K := Lib.hid (HKEY.out w1 hb1)
    have hs1 : w.heap.size + 1 ≤ w1.heap.size := by have := hb1.size; simpa using this
    refine wp_region_cls (B := w.heap.size + 1) (w0 := w1) (by kernel_rfl) (by kernel_rfl) (Below.refl _ _) ?_
    have z0 := fun X => (K.out X).1
    have z1 := fun X => (K.out X).2.1
    repeat (first | go_big_quiet_skip | (go_big_quiet_want; go_big_quiet_op; go_big_quiet_on))
    go_big_quiet_want
    go_big_quiet_op
    refine ⟨.int .i64 r, fun X => X.call hs1 (K.out X).2.2.1, ?_⟩
    go_big_quiet_on
    repeat (first | go_big_quiet_skip | (go_big_quiet_want; go_big_quiet_op; go_big_quiet_on))
    go_big_quiet_want
    go_big_quiet_op
    refine ⟨.int .i64 r, fun X => X.call hs1 (K.out X).2.2.2, ?_⟩
    go_big_quiet_on
    repeat (first | go_big_quiet_skip | (go_big_quiet_want; go_big_quiet_op; go_big_quiet_on))
    refine wpQuiet_nil ?_
    intro X
    go_wp2_with fail
    go_ret
    exact ⟨rfl, (HB0.out.trans (hb1.mono (Nat.le_succ _))).trans (X.bel.mono (Nat.le_succ _))⟩
  · rw [decide_eq_false hq] at HF
    go_enter Try.func3, Try.ntmps3
    go_wp2_with (go_at_call 7; refine HF.out.mono ?_; rintro e w1 ⟨rfl, hb1⟩)
    go_ret
    exact ⟨rfl, HB0.out.trans (hb1.mono (Nat.le_succ _))⟩
end Go.Proofs.Ytgfchgnebpogjaa
