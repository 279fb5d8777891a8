/- The chart of terminals: what memory looks like while its tables are made. -/
import Derived.Test.YtgfchgnebpogjaaHsB
namespace Go.Proofs.Ytgfchgnebpogjaa
open Go.RowKit BigFrame
set_option linter.unusedVariables false
set_option linter.unusedSimpArgs false
set_option maxRecDepth 100000

theorem elCh : ElTy Try.prog 65 60 1 24 (.slice none 0 0) := ⟨Try.underlying65, by kernel_rfl, rfl, by decide⟩
def tbl (S : Nat) (δ γ : Nat → Nat) (i : Nat) : Value := .slice (some ⟨δ i, 0, none⟩) S (γ i)
/-- The first k tables. -/
structure Tb (w : World) (B S k : Nat) (v : Value) (δ γ : Nat → Nat) (ρ : Nat → Nat → Nat) : Prop where
  own : w.ownsRow B 60 1 v k ((List.range k).map (tbl S δ γ))
  g : ∀ i, i < k → S ≤ γ i ∧ γ i ≤ maxLen
  d : ∀ i f, i < k → f < S → w.cell? ⟨δ i, f, none⟩ = some (.slice (some ⟨ρ i f, 0, none⟩) S S)
  r : ∀ i f t, i < k → f < S → t < S → w.cell? ⟨ρ i f, t, none⟩ = some (.bool false)
  z : ∀ i f t, i < k → f < S → t < S → w.frozen? ⟨ρ i f, t, none⟩ = false
  inj : ∀ i f j g, i < k → f < S → j < k → g < S → ρ i f = ρ j g → i = j ∧ f = g
  lD : ∀ i, i < k → B ≤ δ i
  lR : ∀ i f, i < k → f < S → B ≤ ρ i f
  uD : ∀ i, i < k → δ i < w.heap.size
  uR : ∀ i f, i < k → f < S → ρ i f < w.heap.size
  nD : ∀ i, i < k → v.ownBlock ≠ some (δ i)
  nR : ∀ i f, i < k → f < S → v.ownBlock ≠ some (ρ i f)
section
variable {w w1 w2 : World} {B S k : Nat} {v v' : Value} {δ γ : Nat → Nat} {ρ : Nat → Nat → Nat}
/-- A table more. -/
theorem Tb.next (h : Tb w B S k v δ γ ρ) (hS : 0 < S) (hB : B ≤ w.heap.size) {D c : Nat} {ρl : List Nat} (hb : Below w.heap.size w w1) (hM : MtSt w1 D S S ρl (m0 S S)) (hD : w.heap.size ≤ D) (hρ : ∀ i, i < S → w.heap.size ≤ nthN ρl i) (hc1 : S ≤ c) (hc2 : c ≤ maxLen)
    (hown : w2.ownsRow B 60 1 v' (k + 1) ((List.range k).map (tbl S δ γ) ++ [.slice (some ⟨D, 0, none⟩) S c])) (hg : w1.grownBy w2 v.ownBlock) (hv : v'.ownBlock = v.ownBlock ∨ v'.ownBlock = some (w1.heap.size + 1)) :
    Tb w2 B S (k + 1) v' (fun i => if i = k then D else δ i) (fun i => if i = k then c else γ i) (fun i => if i = k then nthN ρl else ρ i) := by
  have hvw : ∀ b, v.ownBlock = some b → b < w.heap.size := fun b e => (h.own.lt b e).2
  have hnD : v.ownBlock ≠ some D := fun e => by have := hvw D e; omega
  have hnR : ∀ f, f < S → v.ownBlock ≠ some (nthN ρl f) := fun f hf e => by have := hvw _ e; have := hρ f hf; omega
  have hR1 : ∀ f, f < S → nthN ρl f < w1.heap.size := fun f hf => (hM.rows f hf).1.lt
  have hblk : ∀ b, b < w1.heap.size → v.ownBlock ≠ some b → w2.heap[b]? = w1.heap[b]? := fun b h1 h2 => hg.block b h1 (fun e => h2 e.symm)
  have hblk0 : ∀ b, b < w.heap.size → v.ownBlock ≠ some b → w2.heap[b]? = w.heap[b]? := fun b h1 h2 => (hblk b (Nat.lt_of_lt_of_le h1 hb.size) h2).trans (hb.block b h1)
  have hrow : ∀ f, f < S → rowB (m0 S S) f = List.replicate S false := fun f hf => rowB_m0 hf
  have hz := hb.size
  have hz2 := hg.size
  have split_lt : ∀ i, i < k + 1 → i ≠ k → i < k := fun i a b => by omega
  have hne : ∀ i f, i < k → f < S → ∀ g, g < S → ρ i f ≠ nthN ρl g := fun i f hi hf g hg e => by have := h.uR i f hi hf; have := hρ g hg; omega
  refine ⟨?_, fun i hi => ?_, fun i f hi hf => ?_, fun i f t hi hf ht => ?_, fun i f t hi hf ht => ?_, fun i f j g hi hf hj hg => ?_, fun i hi => ?_, fun i f hi hf => ?_, fun i hi => ?_, fun i f hi hf => ?_, fun i hi => ?_, fun i f hi hf => ?_⟩
  · have e : (List.range (k + 1)).map (tbl S (fun i => if i = k then D else δ i) (fun i => if i = k then c else γ i)) = (List.range k).map (tbl S δ γ) ++ [.slice (some ⟨D, 0, none⟩) S c] := by
      rw [List.range_succ, List.map_append]
      congr 1
      · refine List.map_congr_left fun i hi => ?_
        have : i ≠ k := by have := List.mem_range.1 hi; omega
        unfold tbl; simp [this]
      · simp [tbl]
    rw [e]; exact hown
  · by_cases e : i = k
    · subst e; simp only [if_true]; exact ⟨hc1, hc2⟩
    · simp only [if_neg e]; exact h.g i (split_lt i hi e)
  · by_cases e : i = k
    · subst e; simp only [if_true]
      exact (World.cell?_of_block (hblk D hM.dl hnD)).trans (hM.d f hf)
    · simp only [if_neg e]
      have hi' := split_lt i hi e
      exact (World.cell?_of_block (hblk0 _ (h.uD i hi') (h.nD i hi'))).trans (h.d i f hi' hf)
  · by_cases e : i = k
    · subst e; simp only [if_true]
      have := (hM.rows f hf).1.bcell (k := t) (by rw [hrow f hf]; simpa using ht)
      rw [hrow f hf, bth_rep] at this
      exact (World.cell?_of_block (hblk _ (hR1 f hf) (hnR f hf))).trans this
    · simp only [if_neg e]
      have hi' := split_lt i hi e
      exact (World.cell?_of_block (hblk0 _ (h.uR i f hi' hf) (h.nR i f hi' hf))).trans (h.r i f t hi' hf ht)
  · by_cases e : i = k
    · subst e; simp only [if_true]
      exact (World.frozen?_of_block (hblk _ (hR1 f hf) (hnR f hf))).trans ((hM.rows f hf).1.frozen t)
    · simp only [if_neg e]
      have hi' := split_lt i hi e
      exact (World.frozen?_of_block (hblk0 _ (h.uR i f hi' hf) (h.nR i f hi' hf))).trans (h.z i f t hi' hf ht)
  · by_cases e : i = k
    · by_cases e2 : j = k
      · subst e e2; simp only [if_true]
        exact fun q => ⟨trivial, hM.nd f g hf hg q⟩
      · subst e; simp only [if_true, if_neg e2]
        exact fun q => absurd q.symm (hne j g (split_lt j hj e2) hg f hf)
    · by_cases e2 : j = k
      · subst e2; simp only [if_true, if_neg e]
        exact fun q => absurd q (hne i f (split_lt i hi e) hf g hg)
      · simp only [if_neg e, if_neg e2]
        exact h.inj i f j g (split_lt i hi e) hf (split_lt j hj e2) hg
  · by_cases e : i = k
    · subst e; simp only [if_true]; omega
    · simp only [if_neg e]; exact h.lD i (split_lt i hi e)
  · by_cases e : i = k
    · subst e; simp only [if_true]; have := hρ f hf; omega
    · simp only [if_neg e]; exact h.lR i f (split_lt i hi e) hf
  · by_cases e : i = k
    · subst e; simp only [if_true]; have := hM.dl; omega
    · simp only [if_neg e]; have := h.uD i (split_lt i hi e); omega
  · by_cases e : i = k
    · subst e; simp only [if_true]; have := hR1 f hf; omega
    · simp only [if_neg e]; have := h.uR i f (split_lt i hi e) hf; omega
  · have fresh : ∀ b, b < w1.heap.size → v.ownBlock ≠ some b → v'.ownBlock ≠ some b := fun b h1 h2 => by
      rcases hv with e | e
      · rw [e]; exact h2
      · rw [e]; intro q; injection q with q; omega
    by_cases e : i = k
    · subst e; simp only [if_true]; exact fresh D hM.dl hnD
    · simp only [if_neg e]; have hi' := split_lt i hi e; exact fresh _ (Nat.lt_of_lt_of_le (h.uD i hi') hz) (h.nD i hi')
  · have fresh : ∀ b, b < w1.heap.size → v.ownBlock ≠ some b → v'.ownBlock ≠ some b := fun b h1 h2 => by
      rcases hv with e | e
      · rw [e]; exact h2
      · rw [e]; intro q; injection q with q; omega
    by_cases e : i = k
    · subst e; simp only [if_true]; exact fresh _ (hR1 f hf) (hnR f hf)
    · simp only [if_neg e]; have hi' := split_lt i hi e; exact fresh _ (Nat.lt_of_lt_of_le (h.uR i f hi' hf) hz) (h.nR i f hi' hf)
/-- All tables: a chart that says nothing. -/
theorem Tb.cu (h : Tb w B S k v δ γ ρ) (hS : 0 < S) (hk : 0 < k) : ∃ C c, v = .slice (some ⟨C, 0, none⟩) k c ∧ k ≤ c ∧ c ≤ maxLen ∧ Cu w B C k S δ γ ρ (fun _ _ _ => false) := by
  rcases h.own.2 with ⟨_, h0⟩ | ⟨g, cap, cur, rfl, hb, hg, hn, hc, hs, ht⟩
  · omega
  · refine ⟨g, cap, rfl, hn, hc, hS, hk, fun i hi => ?_, h.g, h.d, h.r, h.z, h.inj, hb, h.lD, h.lR, (Array.getElem?_eq_some_iff.1 hg).1, h.uD, h.uR⟩
    have := h.own.cells (g := g) rfl i (tbl S δ γ i) (by rw [List.getElem?_map, List.getElem?_range hi]; rfl)
    unfold tbl at this
    have ha : (⟨g, 0, none⟩ : Addr).add i = ⟨g, i, none⟩ := by simp [Addr.add]; intro h; exact h.symm
    rw [ha] at this
    exact this
end
end Go.Proofs.Ytgfchgnebpogjaa
