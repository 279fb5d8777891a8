/- repair.Cost. -/
import Derived.Test.YtgfchgnebpogjaaRepQ
import Derived.Test.YtgfchgnebpogjaaConc
import Derived.StillTailTactics
import Derived.BigRegion
namespace Go.Proofs.Ytgfchgnebpogjaa
open Go.RowKit
set_option linter.unusedVariables false
set_option linter.unusedSimpArgs false
set_option maxRecDepth 100000

theorem run_min (P : Program) (a b m : Int) (h : m = min a b) : ∀ (ts : Array TypeId) (t : TypeId) (w : World), (Builtin.min_ ts t #[.int .i64 a, .int .i64 b]).run P w = .ok (.int .i64 m) w := by
  intro ts t w
  rw [run_min_int2, show (if b < a then b else a) = m from by split <;> omega]

theorem cost_bad (A1 A2 A3 A4 : Option Addr) (n1 c1 n2 c2 n3 c3 n4 c4 : Nat) (P L F T : List Int) (w : World) (B : Nat) (hB : B ≤ w.heap.size)
    (h1 : RdI w B A1 P) (h2 : RdI w B A2 L) (h3 : RdI w B A3 F) (h4 : RdI w B A4 T) (l1 : P.length = n1) (l2 : L.length = n2) (l3 : F.length = n3) (l4 : T.length = n4)
    (m1 : n1 ≤ maxLen) (m2 : n2 ≤ maxLen) (m3 : n3 ≤ maxLen) (m4 : n4 ≤ maxLen) (hb : ¬ (P.all costB = true ∧ L.all costB = true ∧ n3 ≤ 1000 ∧ n4 ≤ 1000)) :
    Calls Try.prog 8 #[.agg #[.slice A1 n1 c1, .slice A2 n2 c2], .slice A3 n3 c3, .slice A4 n4 c4] w fun e w' => e = .returned (.int .i64 (-1)) ∧ Below w.heap.size w w' := by
  have hb0 : Below w.heap.size w (w.alloc (.cells #[.slice A1 n1 c1, .slice A2 n2 c2] 24)) := (Below.refl _ _).alloc (Nat.le_refl _) _
  have hc0 : (w.alloc (.cells #[.slice A1 n1 c1, .slice A2 n2 c2] 24)).cell? ⟨w.heap.size, 0, none⟩ = some (.slice A1 n1 c1) := by simp
  have hc1 : (w.alloc (.cells #[.slice A1 n1 c1, .slice A2 n2 c2] 24)).cell? ⟨w.heap.size, 1, none⟩ = some (.slice A2 n2 c2) := by simp
  have hW0 : (w.alloc (.cells #[.slice A1 n1 c1, .slice A2 n2 c2] 24)).heap.size = w.heap.size + 1 := by simp
  obtain ⟨W0, hW⟩ : ∃ W0, W0 = w.alloc (.cells #[.slice A1 n1 c1, .slice A2 n2 c2] 24) := ⟨_, rfl⟩
  rw [← hW] at hb0 hc0 hc1 hW0
  have hcall1 := costs_any A1 n1 c1 P (min (n1 : Int) n2) W0 B (h1.below (hb0.mono hB)) l1 m1
  have hcall2 := costs_any A2 n2 c2 L (min (n1 : Int) n2) W0 B (h2.below (hb0.mono hB)) l2 m2
  rw [show decide (min (n1 : Int) n2 ≤ n1) = true from decide_eq_true (by omega), Bool.true_and] at hcall1
  rw [show decide (min (n1 : Int) n2 ≤ n2) = true from decide_eq_true (by omega), Bool.true_and] at hcall2
  obtain ⟨m, hm⟩ : ∃ m : Nat, m = min n1 n2 := ⟨_, rfl⟩
  have hmi : (m : Int) = min (n1 : Int) n2 := by omega
  rw [← hmi] at hcall1 hcall2
  have hmin := run_min Try.prog n1 n2 m hmi
  have hmm : m ≤ maxLen := by omega
  unfold maxLen at hmm m1 m2 m3 m4
  clear hmi hm
  have go : ∀ (p q : Bool), P.all costB = p → L.all costB = q → Calls Try.prog 8 #[.agg #[.slice A1 n1 c1, .slice A2 n2 c2], .slice A3 n3 c3, .slice A4 n4 c4] w fun e w' => e = .returned (.int .i64 (-1)) ∧ Below w.heap.size w w' := by
    intro p q e1 e2
    rw [e1] at hcall1 hb
    rw [e2] at hcall2 hb
    clear e1 e2
    have HC1 := Lib.hid hcall1; have HC2 := Lib.hid hcall2; clear hcall1 hcall2
    subst hW
    cases p
    · clear hb
      go_enter Try.func8, Try.ntmps8
      go_wp2_with (go_at_call 34; refine HC1.out.mono ?_; rintro e w' ⟨rfl, rfl⟩)
      go_ret
      exact ⟨rfl, hb0⟩
    cases q
    · clear hb
      go_enter Try.func8, Try.ntmps8
      go_wp2_with (go_at_call 34; first | (with_reducible refine HC1.out.mono ?_; rintro e w' ⟨rfl, rfl⟩) | (refine HC2.out.mono ?_; rintro e w' ⟨rfl, rfl⟩))
      go_ret
      exact ⟨rfl, hb0⟩
    by_cases h3 : n3 ≤ 1000
    · have h4 : 1000 < (n4 : Int) := by
        rcases Nat.lt_or_ge 1000 n4 with g | g
        · omega
        · exact absurd ⟨rfl, rfl, h3, g⟩ hb
      have h3' : ¬ (1000 < (n3 : Int)) := by omega
      have d3 : decide ((1000 : Int) < n3) = false := decide_eq_false h3'
      have d4 : decide ((1000 : Int) < n4) = true := decide_eq_true h4
      clear hb h3
      go_enter Try.func8, Try.ntmps8
      go_wp2_with (go_at_call 34; first | (with_reducible refine HC1.out.mono ?_; rintro e w' ⟨rfl, rfl⟩) | (refine HC2.out.mono ?_; rintro e w' ⟨rfl, rfl⟩))
      go_ret
      exact ⟨rfl, hb0⟩
    · have h3' : 1000 < (n3 : Int) := by omega
      have d3 : decide ((1000 : Int) < n3) = true := decide_eq_true h3'
      clear hb h3
      go_enter Try.func8, Try.ntmps8
      go_wp2_with (go_at_call 34; first | (with_reducible refine HC1.out.mono ?_; rintro e w' ⟨rfl, rfl⟩) | (refine HC2.out.mono ?_; rintro e w' ⟨rfl, rfl⟩))
      go_ret
      exact ⟨rfl, hb0⟩
  exact go _ _ rfl rfl
end Go.Proofs.Ytgfchgnebpogjaa
