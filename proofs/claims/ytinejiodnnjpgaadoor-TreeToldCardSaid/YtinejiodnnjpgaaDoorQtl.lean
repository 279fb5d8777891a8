/- A region that draws its order: quiet operations (calls too) ahead of one store: the cheap steps. -/
import Derived.StillTailTactics
import Derived.BigQuiet
namespace Go.Proofs.YtinejiodnnjpgaaDoor
open Go
set_option linter.unusedVariables false

theorem wpStill_of_quiet {P : Program} {ops : Array Oper} {w : World} {Q : Act → Prop} : ∀ (l : List Oper) (a : Act), wpQuiet P ops (fun w' => w' = w) Q l a → wpStill P ops w Q l a
  | [], a, h => h
  | o :: rest, a, h => by
    unfold wpQuiet at h
    unfold wpStill
    split at h
    · rename_i hw
      rw [if_pos hw]
      obtain ⟨v, h1, h2⟩ := h
      have h3 := h1 w rfl
      unfold Oper.quietAt at h3
      unfold Oper.still
      generalize (execOp a.eval o).run P w = r at *
      cases r with
      | halt x w' => exact h3.elim
      | ok n w' =>
        cases n with
        | value u =>
          obtain ⟨rfl, rfl⟩ := h3
          exact ⟨rfl, wpStill_of_quiet rest _ h2⟩
        | skip =>
          obtain ⟨rfl, rfl⟩ := h3
          exact ⟨rfl, wpStill_of_quiet rest _ h2⟩
        | enter f args =>
          obtain ⟨rfl, hc⟩ := h3
          exact ⟨rfl, v, hc, wpStill_of_quiet rest _ h2⟩
        | _ => exact h3.elim
    · rename_i hw
      rw [if_neg hw]
      exact wpStill_of_quiet rest _ h

/-- N quiet operations, then the tail, in the world drawn once. -/
theorem wp_quiet_tail {P : Program} {ops : Array Oper} {w w2 : World} (hw : w2 = w.drew) {Q : Act → Prop} {l : List Oper} {a : Act} (h : wpQuiet P ops (fun w' => w' = w2) Q l a) : wpStill P ops w.drew Q l a := by
  subst hw
  exact wpStill_of_quiet l a h
end Go.Proofs.YtinejiodnnjpgaaDoor
