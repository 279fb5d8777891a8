/- Plain: which names have trees, which the empty sentence: a list of truths that grows. No program here. -/
import Derived.Test.YtgfchgnebpogjaaFixP
import Derived.Test.YtgfchgnebpogjaaBlk
namespace Go.Proofs.Ytgfchgnebpogjaa
set_option linter.unusedVariables false
set_option linter.unusedSimpArgs false

/-- What a symbol must be: (of Lives) a terminal or a name that is in; (of Empty) a name that is in. -/
def livS (l : List Bool) (s : Int) : Bool := decide (0 ≤ s) || bth l (-1 - s).toNat
def empS (l : List Bool) (s : Int) : Bool := decide (s < 0) && bth l (-1 - s).toNat
section
variable (f : List Bool → Int → Bool)
def stepG (_ : Nat) (p : Pr) (l : List Bool) : List Bool × Bool :=
  if bth l p.1.toNat || !(p.2.1.all (f l)) then (l, false) else (l.set p.1.toNat true, true)
variable {f}
theorem stepG_same (i : Nat) (p : Pr) (l : List Bool) (h : (stepG f i p l).2 = false) : (stepG f i p l).1 = l := by
  unfold stepG at h ⊢
  split
  · rfl
  · rw [if_neg ‹_›] at h; cases h
theorem stepG_len {i : Nat} {p : Pr} {l : List Bool} : (stepG f i p l).1.length = l.length := by
  unfold stepG; split <;> simp
/-- How many are not in. -/
def muB (l : List Bool) : Nat := (l.map (fun b => if b = true then 0 else 1)).sum
theorem muB_set : ∀ (l : List Bool) (k : Nat), k < l.length → bth l k = false → muB (l.set k true) < muB l
  | [], k, h, _ => by simp at h
  | b :: l, 0, _, h => by
    have : bth (b :: l) 0 = b := rfl
    rw [this] at h
    subst h
    simp [muB]
  | b :: l, k + 1, h, hb => by
    have : bth (b :: l) (k + 1) = bth l k := by simp [bth]
    rw [this] at hb
    have := muB_set l k (by simpa using h) hb
    unfold muB at this ⊢
    rw [List.set_cons_succ, List.map_cons, List.map_cons, List.sum_cons, List.sum_cons]
    omega
theorem stepG_mu {i : Nat} {p : Pr} {l : List Bool} (hk : p.1.toNat < l.length) (h : (stepG f i p l).2 = true) : muB (stepG f i p l).1 < muB l := by
  unfold stepG at h ⊢
  split at h
  · cases h
  · rename_i hc
    rw [if_neg hc]
    exact muB_set l _ hk (by cases hb : bth l p.1.toNat; rfl; rw [hb] at hc; simp at hc)
def b0 (N : Nat) : List Bool := List.replicate N false
theorem muB_b0 (N : Nat) : muB (b0 N) = N := by
  unfold muB b0
  rw [List.map_replicate]
  induction N with
  | zero => rfl
  | succ n ih => rw [List.replicate_succ, List.sum_cons, ih]; simp; omega
theorem stepG_done {ps : List Pr} {N : Nat} (hf : ∀ p ∈ ps, p.1.toNat < N) : (passF (stepG f) 0 ps (rounds (stepG f) ps N (b0 N))).2 = false := by
  have := fix_measure (step := stepG f) (Q := fun l : List Bool => l.length = N) (μ := muB) stepG_same (ps := ps) (fun k p y hp hy => ⟨by rw [stepG_len]; exact hy, fun h => stepG_mu (by rw [hy]; exact hf p (List.mem_of_getElem? hp)) h⟩) (x := b0 N) (by simp [b0])
  rwa [muB_b0] at this
theorem grow_agree {ps : List Pr} {N m : Nat} (hf : ∀ p ∈ ps, p.1.toNat < N) (h : (passF (stepG f) 0 ps (rounds (stepG f) ps m (b0 N))).2 = false) : rounds (stepG f) ps m (b0 N) = rounds (stepG f) ps N (b0 N) := by
  have h2 := stepG_done (f := f) hf
  have a := (rounds_fixed stepG_same h (Nat.le_add_right m N)).1
  have b := (rounds_fixed stepG_same h2 (Nat.le_add_left N m)).1
  rw [← a, ← b]
end
end Go.Proofs.Ytgfchgnebpogjaa
