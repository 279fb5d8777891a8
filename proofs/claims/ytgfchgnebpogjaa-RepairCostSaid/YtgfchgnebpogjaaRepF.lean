/- The document's Cost: what it refuses. -/
import Derived.Test.YtgfchgnebpogjaaRepE
namespace Go.Proofs.Ytgfchgnebpogjaa
open Go.RowKit
set_option linter.unusedVariables false
set_option linter.unusedSimpArgs false
set_option maxRecDepth 100000

theorem rcost_bad (A1 A2 A3 A4 : Option Addr) (n1 c1 n2 c2 n3 c3 n4 c4 : Nat) (P L F T : List Int) (w : World) (B : Nat) (hB : B ≤ w.heap.size)
    (h1 : RdI w B A1 P) (h2 : RdI w B A2 L) (h3 : RdI w B A3 F) (h4 : RdI w B A4 T) (l1 : P.length = n1) (l2 : L.length = n2) (l3 : F.length = n3) (l4 : T.length = n4)
    (m1 : n1 ≤ maxLen) (m2 : n2 ≤ maxLen) (m3 : n3 ≤ maxLen) (m4 : n4 ≤ maxLen)
    (hb : ¬ (P.all costB = true ∧ L.all costB = true ∧ F.all (insB (min (n1 : Int) n2)) = true ∧ T.all (insB (min (n1 : Int) n2)) = true ∧ n3 ≤ 1000 ∧ n4 ≤ 1000)) :
    Calls Try.prog 9 #[.agg #[.slice A1 n1 c1, .slice A2 n2 c2], .slice A3 n3 c3, .slice A4 n4 c4] w fun e w' => e = .returned (.int .i64 (-1)) ∧ Below w.heap.size w w' := by
  have hb0 : Below w.heap.size w (w.alloc (.cells #[.slice A1 n1 c1, .slice A2 n2 c2] 24)) := (Below.refl _ _).alloc (Nat.le_refl _) _
  have hc0 : (w.alloc (.cells #[.slice A1 n1 c1, .slice A2 n2 c2] 24)).cell? ⟨w.heap.size, 0, none⟩ = some (.slice A1 n1 c1) := by simp
  have hc1 : (w.alloc (.cells #[.slice A1 n1 c1, .slice A2 n2 c2] 24)).cell? ⟨w.heap.size, 1, none⟩ = some (.slice A2 n2 c2) := by simp
  obtain ⟨W0, hW⟩ : ∃ W0, W0 = w.alloc (.cells #[.slice A1 n1 c1, .slice A2 n2 c2] 24) := ⟨_, rfl⟩
  rw [← hW] at hb0 hc0 hc1
  have hcall0 := least_any n1 n2 W0
  have hcall1 := costsOk_any A1 n1 c1 P W0 B (h1.below (hb0.mono hB)) l1 m1
  have hcall2 := costsOk_any A2 n2 c2 L W0 B (h2.below (hb0.mono hB)) l2 m2
  have hcall3 := inside_any A3 n3 c3 F (min (n1 : Int) n2) W0 B (h3.below (hb0.mono hB)) l3 m3
  have hcall4 := inside_any A4 n4 c4 T (min (n1 : Int) n2) W0 B (h4.below (hb0.mono hB)) l4 m4
  unfold maxLen at m1 m2 m3 m4
  generalize min (n1 : Int) n2 = m at *
  have go : ∀ (p q r s : Bool), P.all costB = p → L.all costB = q → F.all (insB m) = r → T.all (insB m) = s → Calls Try.prog 9 #[.agg #[.slice A1 n1 c1, .slice A2 n2 c2], .slice A3 n3 c3, .slice A4 n4 c4] w fun e w' => e = .returned (.int .i64 (-1)) ∧ Below w.heap.size w w' := by
    intro p q r s e1 e2 e3 e4
    rw [e1] at hcall1 hb
    rw [e2] at hcall2 hb
    rw [e3] at hcall3 hb
    rw [e4] at hcall4 hb
    clear e1 e2 e3 e4
    have HC0 := Lib.hid hcall0; have HC1 := Lib.hid hcall1; have HC2 := Lib.hid hcall2; have HC3 := Lib.hid hcall3; have HC4 := Lib.hid hcall4; clear hcall0 hcall1 hcall2 hcall3 hcall4
    subst hW
    obtain ⟨x3, hx3⟩ : ∃ x3, x3 = decide ((1000 : Int) < n3) := ⟨_, rfl⟩
    obtain ⟨x4, hx4⟩ : ∃ x4, x4 = decide ((1000 : Int) < n4) := ⟨_, rfl⟩
    have hbb : (!p || !q || !r || !s || x3 || x4) = true := by
      cases p <;> cases q <;> cases r <;> cases s <;> cases x3 <;> cases x4 <;> first | rfl | (exfalso; refine hb ⟨rfl, rfl, rfl, rfl, ?_, ?_⟩ <;> simp at hx3 hx4 <;> omega)
    clear hb
    have hx3' := hx3.symm; have hx4' := hx4.symm
    have d3 : x3 = true → (1000 : Int) < n3 := fun h => of_decide_eq_true (hx3'.trans h)
    clear d3 hx3 hx4
    cases p
    · clear hbb
      go_enter Try.func9, Try.ntmps9
      go_wp2_with (first | (go_at_call 36; refine HC0.out.mono ?_; rintro e w' ⟨rfl, rfl⟩) | (go_at_call 37; first | (with_reducible refine HC1.out.mono ?_; rintro e w' ⟨rfl, rfl⟩) | (with_reducible refine HC2.out.mono ?_; rintro e w' ⟨rfl, rfl⟩)) | (go_at_call 38; first | (with_reducible refine HC3.out.mono ?_; rintro e w' ⟨rfl, rfl⟩) | (with_reducible refine HC4.out.mono ?_; rintro e w' ⟨rfl, rfl⟩)))
      go_ret
      exact ⟨rfl, hb0⟩
    cases q
    · clear hbb
      go_enter Try.func9, Try.ntmps9
      go_wp2_with (first | (go_at_call 36; refine HC0.out.mono ?_; rintro e w' ⟨rfl, rfl⟩) | (go_at_call 37; first | (with_reducible refine HC1.out.mono ?_; rintro e w' ⟨rfl, rfl⟩) | (with_reducible refine HC2.out.mono ?_; rintro e w' ⟨rfl, rfl⟩)) | (go_at_call 38; first | (with_reducible refine HC3.out.mono ?_; rintro e w' ⟨rfl, rfl⟩) | (with_reducible refine HC4.out.mono ?_; rintro e w' ⟨rfl, rfl⟩)))
      go_ret
      exact ⟨rfl, hb0⟩
    cases r
    · clear hbb
      go_enter Try.func9, Try.ntmps9
      go_wp2_with (first | (go_at_call 36; refine HC0.out.mono ?_; rintro e w' ⟨rfl, rfl⟩) | (go_at_call 37; first | (with_reducible refine HC1.out.mono ?_; rintro e w' ⟨rfl, rfl⟩) | (with_reducible refine HC2.out.mono ?_; rintro e w' ⟨rfl, rfl⟩)) | (go_at_call 38; first | (with_reducible refine HC3.out.mono ?_; rintro e w' ⟨rfl, rfl⟩) | (with_reducible refine HC4.out.mono ?_; rintro e w' ⟨rfl, rfl⟩)))
      go_ret
      exact ⟨rfl, hb0⟩
    cases s
    · clear hbb
      go_enter Try.func9, Try.ntmps9
      go_wp2_with (first | (go_at_call 36; refine HC0.out.mono ?_; rintro e w' ⟨rfl, rfl⟩) | (go_at_call 37; first | (with_reducible refine HC1.out.mono ?_; rintro e w' ⟨rfl, rfl⟩) | (with_reducible refine HC2.out.mono ?_; rintro e w' ⟨rfl, rfl⟩)) | (go_at_call 38; first | (with_reducible refine HC3.out.mono ?_; rintro e w' ⟨rfl, rfl⟩) | (with_reducible refine HC4.out.mono ?_; rintro e w' ⟨rfl, rfl⟩)))
      go_ret
      exact ⟨rfl, hb0⟩
    cases x3
    rotate_left
    · clear hbb
      have hy : (1000 : Int) < n3 := of_decide_eq_true hx3'
      go_enter Try.func9, Try.ntmps9
      go_wp2_with (first | (go_at_call 36; refine HC0.out.mono ?_; rintro e w' ⟨rfl, rfl⟩) | (go_at_call 37; first | (with_reducible refine HC1.out.mono ?_; rintro e w' ⟨rfl, rfl⟩) | (with_reducible refine HC2.out.mono ?_; rintro e w' ⟨rfl, rfl⟩)) | (go_at_call 38; first | (with_reducible refine HC3.out.mono ?_; rintro e w' ⟨rfl, rfl⟩) | (with_reducible refine HC4.out.mono ?_; rintro e w' ⟨rfl, rfl⟩)))
      go_ret
      exact ⟨rfl, hb0⟩
    have hz3 : ¬ ((1000 : Int) < n3) := of_decide_eq_false hx3'
    cases x4
    rotate_left
    · clear hbb
      have hy : (1000 : Int) < n4 := of_decide_eq_true hx4'
      go_enter Try.func9, Try.ntmps9
      go_wp2_with (first | (go_at_call 36; refine HC0.out.mono ?_; rintro e w' ⟨rfl, rfl⟩) | (go_at_call 37; first | (with_reducible refine HC1.out.mono ?_; rintro e w' ⟨rfl, rfl⟩) | (with_reducible refine HC2.out.mono ?_; rintro e w' ⟨rfl, rfl⟩)) | (go_at_call 38; first | (with_reducible refine HC3.out.mono ?_; rintro e w' ⟨rfl, rfl⟩) | (with_reducible refine HC4.out.mono ?_; rintro e w' ⟨rfl, rfl⟩)))
      go_ret
      exact ⟨rfl, hb0⟩
    · exact absurd hbb (by simp)
  exact go _ _ _ _ rfl rfl rfl rfl
end Go.Proofs.Ytgfchgnebpogjaa
