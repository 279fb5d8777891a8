/- small: is a grammar no greater than what is claimed of? · The document's GrammarOk. -/
import Derived.Test.YtklhjaohnimmnaaDoorQ8
import Derived.Deep.QuietTactic
import Derived.BigQuiet
namespace Go.Proofs.YtklhjaohnimmnaaDoor
open Go.RowKit
set_option linter.unusedVariables false
set_option linter.unusedSimpArgs false
set_option maxRecDepth 100000

structure GSmall (G : Gr) : Prop where
  t : G.terms ≤ 8
  n : G.names ≤ 8
  p : G.prods.length ≤ 14
  l : G.levels.length ≤ 8
  s : G.sides.length ≤ 8
  r : ∀ p ∈ G.prods, p.2.1.length ≤ 5
open Classical in
noncomputable def smallB (G : Gr) : Bool := decide (GSmall G)
theorem smallB_t {G : Gr} (h : GSmall G) : smallB G = true := by unfold smallB; simp [h]
theorem smallB_f {G : Gr} (h : ¬ GSmall G) : smallB G = false := by unfold smallB; simp [h]

theorem mem_of_get {α : Type} {l : List α} {k : Nat} {x : α} (h : l[k]? = some x) : x ∈ l := List.mem_of_getElem? h
/-- What holds of the first k holds of k + 1. -/
theorem all_step {α : Type} {l : List α} {f : α → Prop} {k : Nat} {x : α} (h : ∀ (j : Nat) (y : α), j < k → l[j]? = some y → f y) (hk : l[k]? = some x) (hx : f x) : ∀ (j : Nat) (y : α), j < k + 1 → l[j]? = some y → f y := by
  intro j y hj hy
  by_cases e : j = k
  · subst e; rw [hk] at hy; cases hy; exact hx
  · exact h j y (by omega) hy
theorem all_done {α : Type} {l : List α} {f : α → Prop} {k : Nat} (h : ∀ (j : Nat) (y : α), j < k → l[j]? = some y → f y) (hl : l.length ≤ k) : ∀ x ∈ l, f x := by
  intro x hx
  obtain ⟨j, hj, e⟩ := List.getElem_of_mem hx
  exact h j x (by omega) (by rw [List.getElem?_eq_getElem hj, e])

set_option maxHeartbeats 1000000 in
theorem small_any (G : Gr) (Ap Al As : Option Addr) (np cp nl cl ns cs : Nat) (w : World) (B : Nat) (hB : B ≤ w.heap.size) (hG : GrIn w B G Ap Al As np cp nl cl ns cs) :
    Calls Tryd.prog 4 #[.agg #[.int .i64 G.terms, .int .i64 G.names, .int .i64 G.start, .slice Ap np cp, .slice Al nl cl, .slice As ns cs]] w fun e w' => e = .returned (.bool (smallB G)) ∧ Below w.heap.size w w' := by
  obtain ⟨hb0, hs0, gb⟩ := gbox w G Ap Al As np cp nl cl ns cs
  obtain ⟨hp1, hp2⟩ := hG.p.len
  have hl1 := hG.ll; have hl2 := hG.sl; have hl3 := hG.lm; have hl4 := hG.sm
  have hG0 := hG.below (hb0.mono hB)
  unfold maxLen at hp2 hl3 hl4
  by_cases q1 : 8 < G.terms
  · have dq1 : decide (8 < G.terms) = true := decide_eq_true q1
    have HF := Lib.hid (smallB_f (G := G) (fun h => by have := h.t; omega))
    clear hp1 hl1 hl2 hG0 gb hG
    go_enter Tryd.func4, Tryd.ntmps4
    go_wp2
    go_ret
    exact ⟨ret_eq (by rw [HF.out]; rfl), hb0⟩
  have dq1 : decide (8 < G.terms) = false := decide_eq_false q1
  by_cases q2 : 8 < G.names
  · have dq2 : decide (8 < G.names) = true := decide_eq_true q2
    have HF := Lib.hid (smallB_f (G := G) (fun h => by have := h.n; omega))
    clear hp1 hl1 hl2 hG0 gb hG
    go_enter Tryd.func4, Tryd.ntmps4
    go_wp2
    go_ret
    exact ⟨ret_eq (by rw [HF.out]; rfl), hb0⟩
  have dq2 : decide (8 < G.names) = false := decide_eq_false q2
  by_cases q3 : 14 < (np : Int)
  · have dq3 : decide (14 < (np : Int)) = true := decide_eq_true q3
    have HF := Lib.hid (smallB_f (G := G) (fun h => by have := h.p; omega))
    clear hp1 hl1 hl2 hG0 gb hG
    go_enter Tryd.func4, Tryd.ntmps4
    go_wp2
    go_ret
    exact ⟨ret_eq (by rw [HF.out]; rfl), hb0⟩
  have dq3 : decide (14 < (np : Int)) = false := decide_eq_false q3
  by_cases q4 : 8 < (nl : Int)
  · have dq4 : decide (8 < (nl : Int)) = true := decide_eq_true q4
    have HF := Lib.hid (smallB_f (G := G) (fun h => by have := h.l; omega))
    clear hp1 hl1 hl2 hG0 gb hG
    go_enter Tryd.func4, Tryd.ntmps4
    go_wp2
    go_ret
    exact ⟨ret_eq (by rw [HF.out]; rfl), hb0⟩
  have dq4 : decide (8 < (nl : Int)) = false := decide_eq_false q4
  by_cases q5 : 8 < (ns : Int)
  · have dq5 : decide (8 < (ns : Int)) = true := decide_eq_true q5
    have HF := Lib.hid (smallB_f (G := G) (fun h => by have := h.s; omega))
    clear hp1 hl1 hl2 hG0 gb hG
    go_enter Tryd.func4, Tryd.ntmps4
    go_wp2
    go_ret
    exact ⟨ret_eq (by rw [HF.out]; rfl), hb0⟩
  have dq5 : decide (8 < (ns : Int)) = false := decide_eq_false q5
  have HP := Lib.hid hp1; have HL := Lib.hid hl1; have HS := Lib.hid hl2; clear hp1 hl1 hl2
  have HG := Lib.hid hG0; clear hG0 hG
  have gb3 := gb.c3
  clear gb
  go_enter Tryd.func4, Tryd.ntmps4
  go_wp2
  go_loop [3] (fun i => ∃ k : Nat, k ≤ np ∧ i = .int .i64 k ∧ Hid (∀ (j : Nat) (y : Prd), j < k → G.prods[j]? = some y → y.2.1.length ≤ 5)) (fun i => np - (intOf i).toNat)
  case atStart => exact ⟨0, Nat.zero_le _, rfl, fun j y h => absurd h (by omega)⟩
  case round =>
    obtain ⟨k, hk, rfl, HE⟩ := hrel
    by_cases hlt : k < np
    · obtain ⟨b, off, rfl, hb, hc⟩ := HG.out.p.at_ (by omega)
      obtain ⟨x, r, y, A', n', c', hq, z0, z1, z2, g1, g2, g3, g4⟩ := hc k hlt
      have HQ := Lib.hid hq; have HR := Lib.hid g1; clear hc hq g1 g4
      unfold maxLen at g3
      by_cases h5 : 5 < (n' : Int)
      · have HF := Lib.hid (smallB_f (G := G) (fun h => by have h1 := h.r _ (mem_of_get HQ.out); have h2 := HR.out; simp only at h1; omega))
        have d : decide (5 < (n' : Int)) = true := decide_eq_true h5
        go_wp2
        go_ret
        exact ⟨ret_eq (by rw [HF.out]; rfl), hb0⟩
      · have d : decide (5 < (n' : Int)) = false := decide_eq_false h5
        go_wp2
        go_round
        case rel => exact ⟨k + 1, by omega, by go_num, all_step HE.out HQ.out (by have h2 := HR.out; simp only; omega)⟩
        case measure => simp [intOf]; omega
    · have HF := Lib.hid (smallB_t (G := G) ⟨by omega, by omega, by have := HP.out; omega, by have := HL.out; omega, by have := HS.out; omega, all_done HE.out (by have := HP.out; omega)⟩)
      go_wp2
      go_ret
      exact ⟨ret_eq (by rw [HF.out]; rfl), hb0⟩
end Go.Proofs.YtklhjaohnimmnaaDoor
namespace Go.Proofs.YtklhjaohnimmnaaDoor
open Go.RowKit
set_option linter.unusedVariables false
set_option linter.unusedSimpArgs false
set_option maxRecDepth 100000

structure PrOk (G : Gr) (p : Prd) : Prop where
  l0 : 0 ≤ p.1
  l1 : p.1 < G.names
  v0 : 0 ≤ p.2.2
  v1 : p.2.2 ≤ G.sides.length
  r : p.2.1.length ≤ 20
  s : ∀ s ∈ p.2.1, -G.names ≤ s ∧ s < G.terms
structure GOk (G : Gr) : Prop where
  t0 : 0 ≤ G.terms
  t1 : G.terms ≤ 300
  n0 : 1 ≤ G.names
  n1 : G.names ≤ 300
  s0 : 0 ≤ G.start
  s1 : G.start < G.names
  p : G.prods.length ≤ 400
  l : G.levels.length = 0 ∨ (G.levels.length : Int) = G.terms
  s : G.sides.length ≤ 50
  sd : ∀ x ∈ G.sides, 1 ≤ x ∧ x ≤ 3
  lv : ∀ x ∈ G.levels, 0 ≤ x ∧ x ≤ G.sides.length
  pr : ∀ p ∈ G.prods, PrOk G p
open Classical in
noncomputable def okB (G : Gr) : Bool := decide (GOk G)
theorem okB_t {G : Gr} (h : GOk G) : okB G = true := by unfold okB; simp [h]
theorem okB_f {G : Gr} (h : ¬ GOk G) : okB G = false := by unfold okB; simp [h]
theorem okB_iff {G : Gr} : okB G = true ↔ GOk G := by unfold okB; simp
theorem getI {l : List Int} {k n : Nat} (hl : l.length = n) (h : k < n) : l[k]? = some (nth l k) := nth_some (by omega)

end Go.Proofs.YtklhjaohnimmnaaDoor
