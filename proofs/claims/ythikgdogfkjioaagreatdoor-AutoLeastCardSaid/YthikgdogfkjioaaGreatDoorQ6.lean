/- A region that draws its order: quiet operations (calls too) ahead of one store: the cheap steps. · Ranges in memory. -/
import Derived.StillTailTactics
import Derived.BigQuiet
import Derived.Test.YthikgdogfkjioaaGreatDoorQ4
import Derived.Test.YthikgdogfkjioaaGreatDoorQ5
import Derived.Test.YthikgdogfkjioaaGreatDoorQ2
import Derived.Test.YthikgdogfkjioaaGreatDoorProg
import Derived.WalkSpells
import Derived.WalkLawsBesides
import Derived.Handy
import Derived.BigRegion
import Derived.Deep.QuietTactic
namespace Go.Proofs.YthikgdogfkjioaaGreatDoor
open Go
set_option linter.unusedVariables false

theorem wpStill_of_quiet {P : Program} {ops : Array Oper} {w : World} {Q : Act → Prop} : ∀ (l : List Oper) (a : Act), wpQuiet P ops (fun w' => w' = w) Q l a → wpStill P ops w Q l a
  | [], a, h => h
  | o :: rest, a, h => by
    unfold wpQuiet at h
    unfold wpStill
    split at h
    · rename_i hw
      rw [if_pos hw]
      obtain ⟨v, h1, h2⟩ := h
      have h3 := h1 w rfl
      unfold Oper.quietAt at h3
      unfold Oper.still
      generalize (execOp a.eval o).run P w = r at *
      cases r with
      | halt x w' => exact h3.elim
      | ok n w' =>
        cases n with
        | value u =>
          obtain ⟨rfl, rfl⟩ := h3
          exact ⟨rfl, wpStill_of_quiet rest _ h2⟩
        | skip =>
          obtain ⟨rfl, rfl⟩ := h3
          exact ⟨rfl, wpStill_of_quiet rest _ h2⟩
        | enter f args =>
          obtain ⟨rfl, hc⟩ := h3
          exact ⟨rfl, v, hc, wpStill_of_quiet rest _ h2⟩
        | _ => exact h3.elim
    · rename_i hw
      rw [if_neg hw]
      exact wpStill_of_quiet rest _ h

/-- N quiet operations, then the tail, in the world drawn once. -/
theorem wp_quiet_tail {P : Program} {ops : Array Oper} {w w2 : World} (hw : w2 = w.drew) {Q : Act → Prop} {l : List Oper} {a : Act} (h : wpQuiet P ops (fun w' => w' = w2) Q l a) : wpStill P ops w.drew Q l a := by
  subst hw
  exact wpStill_of_quiet l a h
end Go.Proofs.YthikgdogfkjioaaGreatDoor
namespace Go.Proofs.YthikgdogfkjioaaGreatDoor
open Go.RowKit BigFrame
set_option linter.unusedVariables false
set_option linter.unusedSimpArgs false
set_option maxRecDepth 100000

theorem elRg : ElTy Tryz.prog 33 52 2 16 (.agg #[.int .i64 0, .int .i64 0]) := ⟨Tryz.underlying33, by kernel_rfl, rfl, by decide⟩
theorem elIn : ElTy Tryz.prog 34 3 1 8 (.int .i64 0) := ⟨Tryz.underlying34, by kernel_rfl, rfl, by decide⟩
/-- Ranges as cells. -/
def rv (l : List Rg) : List Value := l.flatMap fun r => [.int .i64 r.1, .int .i64 r.2]
theorem rv_len (l : List Rg) : (rv l).length = l.length * 2 := by
  induction l with
  | nil => rfl
  | cons r l ih => unfold rv at *; rw [List.flatMap_cons, List.length_append, ih, List.length_cons]; simp; omega
theorem rv_append (l m : List Rg) : rv (l ++ m) = rv l ++ rv m := by unfold rv; rw [List.flatMap_append]
theorem rv_one (l : List Rg) : ∀ u ∈ rv l, u.oneCell' = true := by
  intro u hu
  unfold rv at hu
  rw [List.mem_flatMap] at hu
  obtain ⟨r, _, h⟩ := hu
  simp at h
  rcases h with rfl | rfl <;> rfl
def nthR (l : List Rg) (k : Nat) : Rg := l.getD k (0, 0)
theorem nthR_get {l : List Rg} {k : Nat} (h : k < l.length) : nthR l k = l[k] := by simp [nthR, h]
theorem rv_get : ∀ {l : List Rg} {k : Nat}, k < l.length → (rv l)[k * 2]? = some (.int .i64 (nthR l k).1) ∧ (rv l)[k * 2 + 1]? = some (.int .i64 (nthR l k).2)
  | [], k, h => by simp at h
  | r :: l, 0, _ => ⟨rfl, rfl⟩
  | r :: l, k + 1, h => by
    obtain ⟨a, b⟩ := rv_get (l := l) (k := k) (by simpa using h)
    have e : rv (r :: l) = .int .i64 r.1 :: .int .i64 r.2 :: rv l := rfl
    rw [e, show (k + 1) * 2 = k * 2 + 1 + 1 by omega, show k * 2 + 1 + 1 + 1 = (k * 2 + 1) + 1 + 1 from rfl]
    simp only [List.getElem?_cons_succ]
    exact ⟨by rw [a]; rfl, by rw [b]; rfl⟩
theorem rv_set_hi : ∀ {l : List Rg} {k : Nat} {x : Int}, k < l.length → (rv l).set (k * 2 + 1) (.int .i64 x) = rv (l.set k ((nthR l k).1, x))
  | [], k, x, h => by simp at h
  | r :: l, 0, x, _ => rfl
  | r :: l, k + 1, x, h => by
    have ih := rv_set_hi (l := l) (k := k) (x := x) (by simpa using h)
    have e : rv (r :: l) = .int .i64 r.1 :: .int .i64 r.2 :: rv l := rfl
    rw [e, show (k + 1) * 2 + 1 = k * 2 + 1 + 1 + 1 by omega]
    simp only [List.set_cons_succ]
    rw [ih]; rfl
/-- A slice of ranges. -/
def RdG (w : World) (B : Nat) (A : Option Addr) (l : List Rg) : Prop := Rd w B A (rv l)
theorem RdG.at_ {w : World} {B : Nat} {A : Option Addr} {l : List Rg} (h : RdG w B A l) (hn : 0 < l.length) :
    ∃ b off, A = some ⟨b, off, none⟩ ∧ b < B ∧ ∀ k, k < l.length → w.cell? ⟨b, off + k * 2, none⟩ = some (.int .i64 (nthR l k).1) ∧ w.cell? ⟨b, off + k * 2 + 1, none⟩ = some (.int .i64 (nthR l k).2) := by
  obtain ⟨b, off, e, hb, hc⟩ := h (by intro e; have := rv_len l; rw [e] at this; simp at this; omega)
  refine ⟨b, off, e, hb, fun k hk => ?_⟩
  obtain ⟨h1, h2⟩ := rv_get hk
  exact ⟨hc _ _ h1, by rw [Nat.add_assoc]; exact hc _ _ h2⟩
theorem RdG.below {w w' : World} {B : Nat} {A : Option Addr} {l : List Rg} (h : RdG w B A l) (hb : Below B w w') : RdG w' B A l := Rd.below h hb
theorem RdG.more {w : World} {B B' : Nat} {A : Option Addr} {l : List Rg} (h : RdG w B A l) (hB : B ≤ B') : RdG w B' A l := Rd.more h hB
/-- A row of the call's own: ranges. -/
def OwG (w : World) (base : Nat) (v : Value) (l : List Rg) : Prop := w.ownsRow base 52 2 v l.length (rv l)
theorem OwG.nil (w : World) (base : Nat) : OwG w base (.slice none 0 0) [] := World.ownsRow_nil _ _ _ _
theorem OwG.form {w : World} {base : Nat} {v : Value} {l : List Rg} (h : OwG w base v l) : ∃ A c, v = .slice A l.length c ∧ l.length ≤ c ∧ c ≤ maxLen ∧ RdG w w.heap.size A l := own_form h
theorem OwG.ext {w w' : World} {base : Nat} {v : Value} {l : List Rg} (h : OwG w base v l) (hb : Below w.heap.size w w') : OwG w' base v l := own_ext h hb
/-- Its block. -/
theorem OwG.blk {w : World} {base : Nat} {v : Value} {l : List Rg} (h : OwG w base v l) (hl : 0 < l.length) : ∃ g cap, v = .slice (some ⟨g, 0, none⟩) l.length cap ∧ v.ownBlock = some g ∧ base ≤ g ∧ g < w.heap.size ∧ (∀ i, w.frozen? ⟨g, i, none⟩ = false) ∧
    (∀ k, k < l.length → w.cell? ⟨g, k * 2, none⟩ = some (.int .i64 (nthR l k).1) ∧ w.cell? ⟨g, k * 2 + 1, none⟩ = some (.int .i64 (nthR l k).2)) ∧
    ∀ k x, k < l.length → OwG (w.setCell ⟨g, k * 2 + 1, none⟩ (.int .i64 x)) base v (l.set k ((nthR l k).1, x)) := by
  rcases h.2 with ⟨_, h0⟩ | ⟨g, cap, cur, rfl, hb, hg, hn, hc, hs, ht⟩
  · omega
  · have hlen := rv_len l
    refine ⟨g, cap, rfl, rfl, hb, (Array.getElem?_eq_some_iff.1 hg).1, fun i => by simp [World.frozen?, hg], fun k hk => ?_, fun k x hk => ⟨by rw [rv_len], .inr ⟨g, cap, cur.set! (k * 2 + 1) (.int .i64 x), by rw [List.length_set], hb, ?_, by rw [List.length_set]; exact hn, hc, by simp [hs], ?_⟩⟩⟩
    · obtain ⟨r1, r2⟩ := rv_get hk
      rw [← ht] at r1 r2
      rw [List.getElem?_take] at r1 r2
      have q1 : cur.toList[k * 2]? = some (.int .i64 (nthR l k).1) := by
        split at r1
        · exact r1
        · cases r1
      have q2 : cur.toList[k * 2 + 1]? = some (.int .i64 (nthR l k).2) := by
        split at r2
        · exact r2
        · cases r2
      rw [cell_of_row w g (k * 2) cur 52 (0, 0) hg, cell_of_row w g (k * 2 + 1) cur 52 (0, 0) hg]
      exact ⟨by simpa using q1, by simpa using q2⟩
    · simp [World.setCell, Array.getElem?_modify, hg]
    · rw [List.length_set, Array.set!, Array.toList_setIfInBounds, List.take_set, ht]
      exact rv_set_hi hk
end Go.Proofs.YthikgdogfkjioaaGreatDoor
