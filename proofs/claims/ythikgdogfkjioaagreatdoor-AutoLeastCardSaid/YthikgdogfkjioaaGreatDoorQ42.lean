/- Memory for auto.minimal: its result under way. -/
import Derived.Test.YthikgdogfkjioaaGreatDoorQ36
import Derived.Test.YthikgdogfkjioaaGreatDoorQ16
namespace Go.Proofs.YthikgdogfkjioaaGreatDoor
open Go.RowKit BigFrame
set_option linter.unusedVariables false
set_option linter.unusedSimpArgs false
set_option maxRecDepth 100000

theorem fstOf_le {m i : Nat} {pn : Nat → Nat} (hi : i < m) : fstOf m pn (pn i) ≤ i := by
  unfold fstOf
  have h2 : (List.range m)[i]'(by simpa using hi) = i := by simp
  exact Nat.le_of_not_lt fun q => by
    have := List.not_of_lt_findIdx (p := fun j => pn j == pn i) q
    rw [h2] at this
    simp at this
/-- Parts of the first i states are laid out. -/
structure Om (w7 W : World) (gr gm m K count : Nat) (pn : Nat → Nat) (RL : List Int) (vs : List Value) (i : Nat) (rls : Nat → Int) (rows : Nat → List Int) : Prop where
  kp : Kp (fun q => q = gr ∨ q = gm) w7 W
  r : Blk W gr 3 (iv RL)
  mm : Blk W gm 34 vs
  lr : RL.length = count
  lm : vs.length = count
  old : ∀ p, p < count → fstOf m pn p < i → nth RL p = rls p ∧ ∃ b, vs[p]? = some (.slice (some ⟨b, 0, none⟩) K K) ∧ w7.heap.size ≤ b ∧ Blk W b 3 (iv (rows p))
  new : ∀ p, p < count → i ≤ fstOf m pn p → vs[p]? = some (.slice none 0 0)
  hr : gr < w7.heap.size
  hm : gm < w7.heap.size
  ne : gr ≠ gm
section
variable {w7 W W' : World} {gr gm m K count i : Nat} {pn : Nat → Nat} {RL : List Int} {vs : List Value} {rls : Nat → Int} {rows : Nat → List Int}
theorem Om.start (hr : Blk w7 gr 3 (iv (List.replicate count 0))) (hm : Blk w7 gm 34 (List.replicate count (.slice none 0 0))) : Om w7 w7 gr gm m K count pn (List.replicate count 0) (List.replicate count (.slice none 0 0)) 0 rls rows :=
  ⟨Kp.refl _ _, hr, hm, by simp, by simp, fun p _ h => by omega, fun p hp _ => by simp [hp], hr.lt, hm.lt, fun e => by
    subst e
    unfold Blk at hr hm
    rw [hr] at hm
    simp at hm⟩
theorem Om.ext (h : Om w7 W gr gm m K count pn RL vs i rls rows) (hb : Below W.heap.size W W') : Om w7 W' gr gm m K count pn RL vs i rls rows :=
  ⟨h.kp.trans (Kp.of hb), h.r.below' hb, h.mm.below' hb, h.lr, h.lm, fun p hp hf => by
    obtain ⟨e, b, q1, q2, q3⟩ := h.old p hp hf
    exact ⟨e, b, q1, q2, q3.below' hb⟩, h.new, h.hr, h.hm, h.ne⟩
theorem Om.skip (h : Om w7 W gr gm m K count pn RL vs i rls rows) (hon : ∀ p, p < count → ∃ j, j < m ∧ pn j = p) (hf : fstOf m pn (pn i) < i) : Om w7 W gr gm m K count pn RL vs (i + 1) rls rows :=
  ⟨h.kp, h.r, h.mm, h.lr, h.lm, fun p hp hq => by
    by_cases e : fstOf m pn p = i
    · obtain ⟨j, hj, rfl⟩ := hon p hp
      obtain ⟨_, h2⟩ := fstOf_spec (part := pn) hj
      rw [e] at h2
      rw [h2, e] at hf
      omega
    · exact h.old p hp (by omega), fun p hp hq => h.new p hp (by omega), h.hr, h.hm, h.ne⟩
theorem Om.put (h : Om w7 W gr gm m K count pn RL vs i rls rows) (hon : ∀ p, p < count → ∃ j, j < m ∧ pn j = p) (hc : pn i < count) (hf : fstOf m pn (pn i) = i) {b : Nat} (hb : w7.heap.size ≤ b) (hB : Blk W b 3 (iv (rows (pn i)))) :
    Om w7 ((W.setCell ⟨gr, pn i, none⟩ (.int .i64 (rls (pn i)))).setCell ⟨gm, pn i, none⟩ (.slice (some ⟨b, 0, none⟩) K K)) gr gm m K count pn (RL.set (pn i) (rls (pn i))) (vs.set (pn i) (.slice (some ⟨b, 0, none⟩) K K)) (i + 1) rls rows := by
  have hrr := h.hr
  have hmm := h.hm
  refine ⟨(h.kp.set_ (p := ⟨gr, pn i, none⟩) (.inr (.inl rfl)) _).set_ (p := ⟨gm, pn i, none⟩) (.inr (.inr rfl)) _, (h.r.iset _ _).far (p := ⟨gm, pn i, none⟩) h.ne _, ((h.mm.far (p := ⟨gr, pn i, none⟩) (Ne.symm h.ne) _)).set_ _ _, by rw [List.length_set]; exact h.lr, by rw [List.length_set]; exact h.lm, fun p hp hq => ?_, fun p hp hq => ?_, h.hr, h.hm, h.ne⟩
  · by_cases e : p = pn i
    · subst e
      refine ⟨by rw [nth_set (by rw [h.lr]; exact hp), if_pos rfl], b, by rw [List.getElem?_set_self (by rw [h.lm]; exact hp)], hb, ?_⟩
      exact (hB.far (p := ⟨gr, pn i, none⟩) (by show b ≠ gr; omega) _).far (p := ⟨gm, pn i, none⟩) (by show b ≠ gm; omega) _
    · have hq2 : fstOf m pn p < i := by
        by_cases e2 : fstOf m pn p = i
        · exfalso
          obtain ⟨j, hj, rfl⟩ := hon p hp
          obtain ⟨_, h2⟩ := fstOf_spec (part := pn) hj
          rw [e2] at h2
          exact e h2.symm
        · omega
      obtain ⟨e1, b1, q1, q2, q3⟩ := h.old p hp hq2
      refine ⟨by rw [nth_set (by rw [h.lr]; exact hc), if_neg (fun z => e z.symm)]; exact e1, b1, by rw [List.getElem?_set_ne (fun z => e z.symm)]; exact q1, q2, ?_⟩
      exact (q3.far (p := ⟨gr, pn i, none⟩) (by show b1 ≠ gr; omega) _).far (p := ⟨gm, pn i, none⟩) (by show b1 ≠ gm; omega) _
  · have e : p ≠ pn i := fun z => by subst z; omega
    rw [List.getElem?_set_ne (fun z => e z.symm)]
    exact h.new p hp (by omega)
/-- Read back, behind a store into a block c that lay before. -/
theorem Om.done (h : Om w7 W gr gm m K count pn RL vs m rls rows) (hon : ∀ p, p < count → ∃ j, j < m ∧ pn j = p) (hK : K ≤ maxLen) (hrow : ∀ p, p < count → (rows p).length = K) {c : Nat} (hc : c < w7.heap.size) (hcr : c ≠ gr) (hcm : c ≠ gm)
    (hk : ∀ q, q < W.heap.size → q ≠ c → W'.heap[q]? = W.heap[q]?) :
    RdI W' W'.heap.size (some ⟨gr, 0, none⟩) ((List.range count).map rls) ∧ RdM W' W'.heap.size (some ⟨gm, 0, none⟩) ((List.range count).map rows) := by
  have hfst : ∀ p, p < count → fstOf m pn p < m := fun p hp => by
    obtain ⟨j, hj, rfl⟩ := hon p hp
    exact (fstOf_spec (part := pn) hj).1
  have e : RL = (List.range count).map rls := by
    apply List.ext_getElem
    · rw [h.lr]; simp
    · intro p h1 h2
      have hp : p < count := by rw [← h.lr]; exact h1
      have := (h.old p hp (hfst p hp)).1
      rw [nth_get h1] at this
      rw [this]; simp
  have hr' : Blk W' gr 3 (iv RL) := (hk gr h.r.lt (Ne.symm hcr)).trans h.r
  have hm' : Blk W' gm 34 vs := (hk gm h.mm.lt (Ne.symm hcm)).trans h.mm
  refine ⟨by rw [← e]; exact hr'.rdI hr'.lt, fun h0 => ⟨gm, 0, rfl, hm'.lt, fun p hp => ?_⟩⟩
  have hp2 : p < count := by simpa using hp
  obtain ⟨_, b, q1, q2, q3⟩ := h.old p hp2 (hfst p hp2)
  have hb' : Blk W' b 3 (iv (rows p)) := (hk b q3.lt (by omega)).trans q3
  have en : nthL ((List.range count).map rows) p = rows p := by unfold nthL; simp [hp2]
  rw [en, hrow p hp2, Nat.zero_add]
  exact ⟨_, K, hm'.cell q1, Nat.le_refl _, hK, hb'.rdI hb'.lt⟩
end
end Go.Proofs.YthikgdogfkjioaaGreatDoor
