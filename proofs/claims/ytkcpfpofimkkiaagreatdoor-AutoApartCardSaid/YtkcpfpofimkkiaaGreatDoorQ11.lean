/- A region that draws its order: operations ahead that touch no memory and that nobody may wait for, then still ones, then a tail in one order (a call that makes memory, an address, a store). · Plain: there are no more classes than edges. No program here. · The document's Classes. -/
import Derived.StillTailTactics
import Derived.BigQuiet
import Derived.Test.YtkcpfpofimkkiaaGreatDoorQ1
import Derived.Test.YtkcpfpofimkkiaaGreatDoorQ4
import Derived.Test.YtkcpfpofimkkiaaGreatDoorQ6
import Derived.Test.YtkcpfpofimkkiaaGreatDoorQ8
import Derived.Test.YtkcpfpofimkkiaaGreatDoorQ10
import Derived.StillTail
import Derived.Deep.QuietTactic
namespace Go.Proofs.YtkcpfpofimkkiaaGreatDoor
open Go
set_option linter.unusedVariables false
set_option linter.unusedSimpArgs false

section
variable {P : Program} {ops : Array Oper} {md : Region.Mode} {w : World}
/-- Each of the first n that is not marked in L0 is waited for by one behind it, up to n. -/
def sinkL (md : Region.Mode) (ops : Array Oper) (n : Nat) (L0 : Array Bool) : Bool :=
  (List.range n).all fun i => L0.getD i false || (List.range (n + 1)).any fun j => decide (i < j) && Region.waitsFor md ops j i
def Over (L0 listed : Array Bool) : Prop := ∀ j, L0.getD j false = true → listed.getD j false = true
theorem Over.set {L0 listed : Array Bool} (h : Over L0 listed) (i : Nat) : Over L0 (listed.setIfInBounds i true) := fun j hj => getD_set_true (h j hj)
theorem tailL {n : Nat} {L0 listed : Array Bool} (hs : sinkL md ops n L0 = true) (hc : Region.chainB md ops n = true) (hn : n < ops.size) (inv : HeadInv md ops n listed) (ho : Over L0 listed) :
    ∀ (d i : Nat), n - i ≤ d → i < n → listed.getD i true = false → ∀ t, n ≤ t → t ∉ Region.ready md ops listed
  | 0, i, hd, hi, _, _, _ => by omega
  | d + 1, i, hd, hi, hun, t, ht => fun hr => by
    obtain ⟨_, ot, hot, hall⟩ := mem_ready.1 hr
    have htl : t < ops.size := (Array.getElem?_eq_some_iff.1 hot).1
    have noEdge : ∀ (e : Edge), e ∈ ot.after → Region.binds md e = true → listed.getD e.on true = false → False := fun e he hb hl => by
      have := hall e he hb
      rw [getD_both hl] at this
      cases this
    rcases Nat.lt_or_ge n t with q | q
    · have h1 := List.all_eq_true.1 hc t (List.mem_range.2 htl)
      simp only [Bool.or_eq_true, decide_eq_true_eq] at h1
      rcases h1 with h1 | h1
      · omega
      · obtain ⟨o2, ho2, e, he, hb, hon⟩ := Region.waitsFor_spec h1
        rw [hot] at ho2
        cases ho2
        exact noEdge e he hb (by rw [hon]; exact inv.tail (t - 1) (by omega) (by omega))
    · obtain rfl : t = n := by omega
      have h1 := List.all_eq_true.1 hs i (List.mem_range.2 hi)
      rw [Bool.or_eq_true] at h1
      rcases h1 with h1 | h1
      · have := ho i h1
        rw [getD_both hun] at this
        cases this
      · obtain ⟨j, hj, hj2⟩ := List.any_eq_true.1 h1
        simp only [Bool.and_eq_true, decide_eq_true_eq] at hj2
        have hjt : j ≤ t := by have := List.mem_range.1 hj; omega
        obtain ⟨oj, hoj, e, he, hb, hon⟩ := Region.waitsFor_spec hj2.2
        by_cases hjn : j = t
        · subst hjn
          rw [hot] at hoj
          cases hoj
          exact noEdge e he hb (by rw [hon]; exact hun)
        · cases hl : listed.getD j false with
          | true =>
            have := inv.closed j oj hoj hl e he hb
            rw [hon, getD_both hun] at this
            cases this
          | false => exact tailL hs hc hn inv ho d j (by omega) (by omega) (getD_in (by rw [inv.size]; omega) hl) t ht hr

theorem firstL {n i : Nat} {oi : Oper} {v : Value} {L0 : Array Bool} {L : Array Bool → Act → Prop} (hi : ops[i]? = some oi) (hsel : ∀ (j : Nat) (o : Oper) cs b, ops[j]? = some o → o.op ≠ .select cs b)
    (hs : sinkL md ops n L0 = true) (hc : Region.chainB md ops n = true) (hn : n < ops.size) (hin : i < n)
    (hdone : ∀ listed a, L listed a → ∀ j ∈ Region.ready md ops listed, n ≤ j) :
    ∀ (f : Nat) (listed : Array Bool) (a : Act), HeadInv md ops n listed → Over L0 listed →
      (∀ j oj, ops[j]? = some oj → j ≠ i → listed.getD j true = false → (∀ e ∈ oj.after, Region.binds md e = true → e.on ≠ i) → oi.apart ops oj = true) →
      i ∈ Region.ready md ops listed → YieldsAt P ops w oi v a →
      wpAnyL P md ops w n L f (listed.setIfInBounds i true) (a.put oi.dst v) → wpAnyL P md ops w n L (f + 1) listed a := by
  intro f
  induction f with
  | zero =>
    intro listed a inv ho _ hr hy H
    have hun := (mem_ready.1 hr).1
    refine ⟨fun h => (by rw [h] at hr; cases hr), fun j hj => ?_⟩
    have hjn : j < n := Nat.lt_of_not_le fun q => tailL hs hc hn inv ho _ i (Nat.le_refl _) hin hun j q hj
    by_cases hji : j = i
    · subst hji; exact ⟨hjn, hy.stOp hi H⟩
    · have := hdone _ _ H j (ready_mono hj hji); omega
  | succ f ih =>
    intro listed a inv ho hfree hr hy H
    have hun := (mem_ready.1 hr).1
    refine ⟨fun h => (by rw [h] at hr; cases hr), fun j hj => ?_⟩
    have hjn : j < n := Nat.lt_of_not_le fun q => tailL hs hc hn inv ho _ i (Nat.le_refl _) hin hun j q hj
    by_cases hji : j = i
    · subst hji; exact ⟨hjn, hy.stOp hi H⟩
    · obtain ⟨hjun, oj, hoj, hall⟩ := mem_ready.1 hj
      have hno : ∀ e ∈ oj.after, Region.binds md e = true → e.on ≠ i := fun e he hb q => by
        have := hall e he hb
        rw [q, getD_both hun] at this
        cases this
      have h2 := stOp_put hoj (hfree j oj hoj hji hjun hno) (fun cs b => hsel i oi cs b hi) (fun cs b => hsel j oj cs b hoj) hy (H.2 j (ready_mono hj hji)).2
      refine ⟨hjn, stOp_mono (fun a' h3 => ih (listed.setIfInBounds j true) a' (inv.set hj hjn) (ho.set j) (fun k ok hk hki hku hkn => hfree k ok hk hki ?_ hkn) (ready_mono hr (Ne.symm hji)) h3.1 ?_) h2⟩
      · by_cases q : j = k
        · subst q; exact hjun
        · rw [getD_set_ne true q] at hku; exact hku
      · rw [Array.setIfInBounds_comm _ _ hji]; exact h3.2

theorem lexL {n g : Nat} {L0 : Array Bool} {Lq : Act → Prop} (hsel : Region.noSelect ops = true) (hs : sinkL md ops n L0 = true) (hc : Region.chainB md ops n = true) (hn : n < ops.size) :
    ∀ (l : List Oper) (k : Nat) (listed : Array Bool) (a : Act), (∀ j, j < l.length → l[j]? = ops[k + j]?) → k + l.length = n → HeadInv md ops n listed → Over L0 listed →
    Region.lexHead md ops g l.length k listed = true → wpStill P ops w Lq l a →
    wpAnyL P md ops w n (fun listed' a' => Region.seqB md ops g n listed' = true ∧ Lq a') l.length listed a
  | [], k, listed, a, _, hk, _, _, hB, h => by
    obtain rfl : k = n := by simpa using hk
    exact ⟨by simpa [Region.lexHead] using hB, h⟩
  | o :: l, k, listed, a, hl, hk, inv, ho, hB, h => by
    have h0 : ops[k]? = some o := by simpa using (hl 0 (by simp)).symm
    simp only [List.length_cons, Region.lexHead, Bool.and_eq_true] at hB
    obtain ⟨⟨hr, hf⟩, hB2⟩ := hB
    have hkn : k < n := by simp only [List.length_cons] at hk; omega
    have hr2 : k ∈ Region.ready md ops listed := by simpa using hr
    obtain ⟨v, hy, hK⟩ := yieldsAt_of_stOp h0 (show stOp P ops w k (wpStill P ops w Lq l) a by unfold stOp; simp only [h0]; exact h)
    exact firstL h0 (Region.noSelect_spec hsel) hs hc hn hkn (fun _ _ hL => seqB_ready hL.1) l.length listed a inv ho (Region.free_spec h0 hf) hr2 hy
      (lexL hsel hs hc hn l (k + 1) _ _ (fun j hj => by have := hl (j + 1) (by simp; omega); simpa [Nat.add_assoc, Nat.add_comm 1 j] using this) (by simp only [List.length_cons] at hk; omega) (inv.set hr2 hkn) (ho.set k) hB2 hK)

/-- The operations of a list in their order, each of which yields its value in whatever world. -/
def wpYld (P : Program) (ops : Array Oper) (K : Act → Prop) : List Oper → Act → Prop
  | [], a => K a
  | o :: l, a => ∃ v, Yields P ops o v a ∧ wpYld P ops K l (a.put o.dst v)
/-- They may come first; behind them stands 'listed'. -/
def yldB (md : Region.Mode) (ops : Array Oper) : Nat → Nat → Array Bool → Bool × Array Bool
  | 0, _, listed => (true, listed)
  | f + 1, k, listed => let r := yldB md ops f (k + 1) (listed.setIfInBounds k true); ((Region.ready md ops listed).contains k && Region.free md ops listed k && r.1, r.2)
theorem wpAny_yld {Q : Exit → Act → World → Prop} (hsel : Region.noSelect ops = true) (hQ : ∀ c a d v w, Q (.panic c) (a.put d v) w → Q (.panic c) a w) {g : Nat} {K : Act → Prop} :
    ∀ (l : List Oper) (k : Nat) (listed : Array Bool) (a : Act), (∀ j, j < l.length → l[j]? = ops[k + j]?) → (yldB md ops l.length k listed).1 = true →
    (∀ a', K a' → wpAny P md ops Q g (yldB md ops l.length k listed).2 a' w) → wpYld P ops K l a → wpAny P md ops Q (g + l.length) listed a w
  | [], k, listed, a, _, _, hK, h => hK a h
  | o :: l, k, listed, a, hl, hB, hK, h => by
    have h0 : ops[k]? = some o := by simpa using (hl 0 (by simp)).symm
    simp only [List.length_cons, yldB, Bool.and_eq_true] at hB hK
    obtain ⟨⟨hr, hf⟩, hB2⟩ := hB
    obtain ⟨v, hy, h2⟩ := h
    exact wpAny_take h0 hsel hf hr (fun c a w q => hQ c a _ _ w q) hy
      (wpAny_yld hsel hQ l (k + 1) _ _ (fun j hj => by have := hl (j + 1) (by simp; omega); simpa [Nat.add_assoc, Nat.add_comm 1 j] using this) hB2 hK h2)
/-- What is to be checked of the region: m ahead that touch no memory, still ones up to n, a tail in one order. -/
def stragB (md : Region.Mode) (ops : Array Oper) (m n : Nat) : Bool :=
  let r := yldB md ops m 0 (Array.replicate ops.size false)
  Region.noSelect ops && decide (n < ops.size) && decide (m ≤ n) && r.1 && sinkL md ops n r.2 && Region.chainB md ops n && Region.lexHead md ops (ops.size - n) (n - m) m r.2
theorem yldB_head {n : Nat} : ∀ (f k : Nat) (listed : Array Bool), k + f ≤ n → HeadInv md ops n listed → (yldB md ops f k listed).1 = true → HeadInv md ops n (yldB md ops f k listed).2
  | 0, k, listed, _, inv, _ => inv
  | f + 1, k, listed, h, inv, hB => by
    simp only [yldB, Bool.and_eq_true] at hB ⊢
    exact yldB_head f (k + 1) _ (by omega) (inv.set (by simpa using hB.1.1) (by omega)) hB.2
theorem wp_region_strag {id : Nat} {Q : Exit → Act → World → Prop} {a : Act} {w : World} {l : List Oper} (m n : Nat) (hm : P.follows .mixedOrders = true) (hB : stragB .any l.toArray m n = true)
    (hQ : ∀ c a d v w, Q (.panic c) (a.put d v) w → Q (.panic c) a w)
    (h : wpYld P l.toArray (fun a' => wpStill P l.toArray w.drew (fun a'' => wpList P l.toArray Q (l.drop n) a'' w.drew) ((l.drop m).take (n - m)) a') (l.take m) a) : (Code.region id l.toArray true).wp P Q a w := by
  simp only [stragB, Bool.and_eq_true, decide_eq_true_eq] at hB
  obtain ⟨⟨⟨⟨⟨⟨hsel, hn⟩, hmn⟩, hy⟩, hs⟩, hc⟩, hlex⟩ := hB
  have hn2 : n < l.length := by simpa using hn
  have hlm : (l.take m).length = m := by simp; omega
  have hlh : ((l.drop m).take (n - m)).length = n - m := by simp; omega
  have hld : (l.drop n).length = l.toArray.size - n := by simp
  have inv0 : HeadInv .any l.toArray n (Array.replicate l.toArray.size false) :=
    ⟨by simp, fun j oj _ q => (by rw [getD_replicate_false] at q; cases q), fun t _ ht => getD_in (by simpa using ht) (getD_replicate_false _ _)⟩
  have inv1 := yldB_head m 0 _ (by omega) inv0 hy
  refine wp_region_any hm ?_
  have key := wpAny_yld (md := .any) (Q := Q) (w := w.drew) (g := n - m + (l.toArray.size - n)) hsel hQ (l.take m) 0 (Array.replicate l.toArray.size false) a
    (fun j hj => by rw [hlm] at hj; simp [hj]) (by rw [hlm]; exact hy) (fun a' ha' => by
      rw [hlm]
      have H := lexL (md := .any) (g := l.toArray.size - n) hsel hs hc hn ((l.drop m).take (n - m)) m _ a' (fun j hj => by
        rw [hlh] at hj
        simp [hj]) (by rw [hlh]; omega) inv1 (fun _ q => q) (by rw [hlh]; exact hlex) ha'
      have := wpAny_of_head (Q' := Q) (g := l.toArray.size - n) (fun listed a' hL => by
        have := wpAny_of_seq (md := .any) (Q' := Q) (l.drop n) n listed a' w.drew (fun j => by simp [List.getElem?_drop]) (by rw [hld]; exact hL.1) hL.2
        rwa [hld] at this) _ _ _ H
      rwa [hlh] at this) h
  rw [hlm, show n - m + (l.toArray.size - n) + m = l.toArray.size by omega] at key
  exact key
/-- Unguarded copies of slots. -/
def movesB (l : List Oper) : Bool := l.all fun o => (match o.op with | .move _ => true | _ => false) && o.guard.isNone
theorem wpYld_of_quiet {K : Act → Prop} (l2 : List Oper) : ∀ (l : List Oper) (a : Act), movesB l = true → wpQuiet P ops (fun w' => w' = w) K (l ++ l2) a → wpYld P ops (fun a' => wpStill P ops w K l2 a') l a
  | [], a, _, h => wpStill_of_quiet _ _ h
  | o :: l, a, hB, h => by
    simp only [movesB, List.all_cons, Bool.and_eq_true] at hB
    obtain ⟨⟨hmv, hg⟩, hB2⟩ := hB
    have hw : Region.wanted o (yielded ops a.tmps) = true := by
      unfold Region.wanted
      cases hgg : o.guard with
      | none => rfl
      | some x => rw [hgg] at hg; cases hg
    have ho : ∃ x, o.op = .move x := by
      revert hmv
      cases o.op <;> simp
    obtain ⟨x, hx⟩ := ho
    rw [List.cons_append] at h
    unfold wpQuiet at h
    rw [if_pos hw] at h
    obtain ⟨v, h1, h2⟩ := h
    have h3 := h1 w rfl
    unfold Oper.quietAt at h3
    have hr : ∀ w, (execOp a.eval o).run P w = .ok (.value (a.eval x)) w := fun w => BigFrame.run_move x hx w
    rw [hr] at h3
    obtain ⟨_, h4⟩ := h3
    exact ⟨v, .inl ⟨hw, fun w => by rw [hr]; rw [h4]⟩, wpYld_of_quiet l2 l _ hB2 h2⟩
theorem wp_region_moves {id : Nat} {Q : Exit → Act → World → Prop} {a : Act} {w : World} {l : List Oper} (m n : Nat) (hm : P.follows .mixedOrders = true) (hB : stragB .any l.toArray m n = true) (hV : movesB (l.take m) = true)
    (hQ : ∀ c a d v w, Q (.panic c) (a.put d v) w → Q (.panic c) a w)
    (h : wpQuiet P l.toArray (fun w' => w' = w.drew) (fun a'' => wpList P l.toArray Q (l.drop n) a'' w.drew) (l.take n) a) : (Code.region id l.toArray true).wp P Q a w := by
  have hB2 := hB
  simp only [stragB, Bool.and_eq_true, decide_eq_true_eq] at hB2
  obtain ⟨⟨⟨⟨⟨⟨_, _⟩, hmn⟩, _⟩, _⟩, _⟩, _⟩ := hB2
  refine wp_region_strag m n hm hB hQ (wpYld_of_quiet _ _ _ hV ?_)
  have e : l.take m ++ (l.drop m).take (n - m) = l.take n := by
    rw [← List.drop_take]
    have : l.take m = (l.take n).take m := by rw [List.take_take, Nat.min_eq_left hmn]
    rw [this, List.take_append_drop]
  rw [e]; exact h
end
end Go.Proofs.YtkcpfpofimkkiaaGreatDoor
namespace Go.Proofs.YtkcpfpofimkkiaaGreatDoor
set_option linter.unusedVariables false
set_option linter.unusedSimpArgs false

/-- How many ranges sets have. -/
def totR (S : List (List Rg)) : Nat := (S.map List.length).sum
theorem totR_snoc (S : List (List Rg)) (s : List Rg) : totR (S ++ [s]) = totR S + s.length := by unfold totR; simp
theorem totR_take {S : List (List Rg)} {k : Nat} (h : k < S.length) : totR (S.take (k + 1)) = totR (S.take k) + S[k].length := by
  rw [List.take_succ_eq_append_getElem h, totR_snoc]
theorem totR_take_le (S : List (List Rg)) (k : Nat) : totR (S.take k) ≤ totR S := by
  have h : totR (S.take k ++ S.drop k) = totR (S.take k) + totR (S.drop k) := by unfold totR; rw [List.map_append, List.sum_append]
  rw [List.take_append_drop] at h
  omega
theorem totR_set : ∀ {S : List (List Rg)} {j : Nat} {c : List Rg} (h : j < S.length), totR (S.set j c) + S[j].length = totR S + c.length
  | a :: S, 0, c, _ => by unfold totR; simp; omega
  | a :: S, j + 1, c, h => by
    have := totR_set (S := S) (j := j) (c := c) (by simpa using h)
    unfold totR at this ⊢
    simp only [List.set_cons_succ, List.map_cons, List.sum_cons, List.getElem_cons_succ]
    omega
/-- Edges of all sets. -/
theorem edges_all (S : List (List Rg)) : ∃ E, EdgO E ∧ (∀ s ∈ S, ∀ r ∈ s, EdgB E r) ∧ E.length ≤ 2 + 2 * totR S := by
  have key : ∀ k, k ≤ S.length → ∃ E, EdgO E ∧ (∀ s ∈ S.take k, ∀ r ∈ s, EdgB E r) ∧ E.length ≤ 2 + 2 * totR (S.take k) := by
    intro k
    induction k with
    | zero => intro _; exact ⟨[0, MP + 1], edg0, fun s hs => (by simp at hs), by simp⟩
    | succ k ih =>
      intro hk
      obtain ⟨E, h1, h2, h3⟩ := ih (by omega)
      obtain ⟨a1, a2, a3⟩ := edg_ok S[k] h1
      refine ⟨edg E S[k], a1, fun t ht r hr => ?_, ?_⟩
      · rw [List.take_succ_eq_append_getElem hk, List.mem_append, List.mem_singleton] at ht
        rcases ht with ht | rfl
        · exact (h2 t ht r hr).more a3
        · exact a2 r hr
      · have := edg_len (s := S[k]) (e := E)
        rw [totR_take hk]; omega
  obtain ⟨E, h1, h2, h3⟩ := key S.length (Nat.le_refl _)
  rw [List.take_of_length_le (Nat.le_refl _)] at h2 h3
  exact ⟨E, h1, h2, h3⟩
theorem at_edge {E : List Int} (h : EdgO E) {f : Int} (h0 : 0 ≤ f) (h1 : f ≤ MP) : ∃ i, ∃ hi : i + 1 < E.length, E[i] ≤ f ∧ f < E[i + 1] := by
  obtain ⟨t, ht, e⟩ := List.getElem_of_mem h.t
  obtain ⟨z, hz, ez⟩ := List.getElem_of_mem h.z
  have asc := List.pairwise_iff_getElem.1 h.asc
  have key : ∀ k, ∀ hk : k < E.length, f < E[k] → ∃ i, ∃ hi : i + 1 < E.length, E[i] ≤ f ∧ f < E[i + 1] := by
    intro k
    induction k with
    | zero =>
      intro hk q
      rcases Nat.eq_zero_or_pos z with rfl | p
      · omega
      · have := asc 0 z hk hz p; omega
    | succ k ih =>
      intro hk q
      by_cases c : f < E[k]
      · exact ih (by omega) c
      · exact ⟨k, hk, by omega, q⟩
  exact key t ht (by omega)
theorem fst_edge {S : List (List Rg)} {c : List Rg} (hc : IsCl S c) {E : List Int} (h : EdgO E) (hb : ∀ s ∈ S, ∀ r ∈ s, EdgB E r) : fstR c ∈ E := by
  obtain ⟨x, hx, k⟩ := hc
  have hm : memR c x = true := by rw [k.mem]; unfold clP; simp [hx]
  obtain ⟨f1, f2⟩ := fst_mem k.can (can_ne hm)
  have f3 := f1
  rw [k.mem] at f3
  unfold clP at f3
  simp only [Bool.and_eq_true, decide_eq_true_eq] at f3
  have hp := f3.1
  unfold isPt at hp
  simp only [Bool.and_eq_true, decide_eq_true_eq] at hp
  obtain ⟨i, hi, q1, q2⟩ := at_edge h hp.1 hp.2
  have e := sig_const h hb hi q1 q2
  have bd := h.bd _ (List.getElem_mem (show i < E.length by omega))
  have : memR c E[i] = true := by
    rw [k.mem]; unfold clP isPt
    simp only [Bool.and_eq_true, decide_eq_true_eq]
    exact ⟨⟨bd.1, by omega⟩, by rw [← e]; exact f3.2⟩
  have := f2 _ this
  rw [show fstR c = E[i] by omega]
  exact List.getElem_mem _
/-- No more classes than edges. -/
theorem part_len {S R : List (List Rg)} (h : Part S R) : R.length ≤ 2 + 2 * totR S := by
  obtain ⟨E, h1, h2, h3⟩ := edges_all S
  have nd : (R.map fstR).Nodup := by
    unfold List.Nodup
    rw [List.pairwise_map]
    refine List.Pairwise.imp_of_mem (fun {a b} ha hb q => ?_) h.dis
    obtain ⟨x, hx, hxm⟩ := (h.each a ha).self
    obtain ⟨y, hy, hym⟩ := (h.each b hb).self
    obtain ⟨_, _, ka⟩ := h.each a ha
    obtain ⟨_, _, kb⟩ := h.each b hb
    intro e
    exact q (fstR a) (fst_mem ka.can (can_ne hxm)).1 (by rw [e]; exact (fst_mem kb.can (can_ne hym)).1)
  have := len_le_of_sub nd (b := E) (fun x hx => by
    obtain ⟨c, hc, rfl⟩ := List.mem_map.1 hx
    exact fst_edge (h.each c hc) h1 h2)
  rw [List.length_map] at this
  omega
end Go.Proofs.YtkcpfpofimkkiaaGreatDoor
namespace Go.Proofs.YtkcpfpofimkkiaaGreatDoor
open Go.RowKit BigFrame
set_option linter.unusedVariables false
set_option linter.unusedSimpArgs false
set_option maxRecDepth 100000

/-- The edges so far. -/
structure EdS (E : List Int) (S : List (List Rg)) : Prop where
  o : EdgO E
  b : ∀ s ∈ S, ∀ r ∈ s, EdgB E r
theorem EdS.snoc {E : List Int} {S : List (List Rg)} {s : List Rg} (h : EdS E S) : EdS (edg E s) (S ++ [s]) := by
  obtain ⟨a1, a2, a3⟩ := edg_ok s h.o
  refine ⟨a1, fun t ht r hr => ?_⟩
  rw [List.mem_append, List.mem_singleton] at ht
  rcases ht with ht | rfl
  · exact (h.b t ht r hr).more a3
  · exact a2 r hr
theorem EdW.from {w0 w w' : World} {b off c b' off' c' : Nat} {l l' : List Int} (h : EdW w0 w b off c l) (k : EdW w w' b' off' c' l') : EdW w0 w' b' off' c' l' :=
  ⟨k.c1, k.c2, k.r, h.bel.trans (k.bel.mono h.bel.size)⟩
theorem EdW.self {w0 w : World} {b off c : Nat} {l : List Int} (h : EdW w0 w b off c l) : EdW w w b off c l := ⟨h.c1, h.c2, h.r, Below.refl _ _⟩

theorem ClV.at_ {w : World} {base : Nat} {v : Value} {vs : List Value} {R : List (List Rg)} (h : ClV w base v vs R) (h0 : 0 < R.length) :
    ∃ g cap, v = .slice (some ⟨g, 0, none⟩) R.length cap ∧ v.ownBlock = some g ∧ base ≤ g ∧ g < w.heap.size ∧ R.length ≤ cap ∧ cap ≤ maxLen ∧ (∀ i, w.frozen? ⟨g, i, none⟩ = false) ∧
      ∀ k, k < R.length → ∃ A c, vs[k]? = some (.slice A (nthS R k).length c) ∧ w.cell? ⟨g, k, none⟩ = some (.slice A (nthS R k).length c) ∧ OwG w base (.slice A (nthS R k).length c) (nthS R k) ∧ (nthS R k).length ≤ c ∧ c ≤ maxLen ∧ RdG w w.heap.size A (nthS R k) := by
  rcases h.row.2 with ⟨_, q⟩ | ⟨g, cap, cur, rfl, hb, hg, hn, hc, hs, ht⟩
  · omega
  · refine ⟨g, cap, rfl, rfl, hb, (Array.getElem?_eq_some_iff.1 hg).1, hn, hc, fun i => by simp [World.frozen?, hg], fun k hk => ?_⟩
    have hkv : k < vs.length := by rw [h.l]; exact hk
    have hu : vs[k]? = some vs[k] := List.getElem?_eq_getElem hkv
    have ho := h.cl k _ hu
    obtain ⟨A, c, e, q1, q2, q3⟩ := ho.form
    rw [e] at hu ho
    refine ⟨A, c, hu, ?_, ho, q1, q2, q3⟩
    rw [cell_of_row w g k cur 36 (0, 0) hg, ← Array.getElem?_toList]
    have h2 := hu
    rw [← ht, List.getElem?_take] at h2
    split at h2
    · exact h2
    · cases h2
theorem grown_drewN (w : World) (q : Nat) (r : Option Nat) : w.grownBy (w.drewN q) r := ⟨rfl, rfl, rfl, Nat.le_refl _, fun _ _ _ => rfl⟩
theorem bel_drewN (w : World) (q B : Nat) : Below B w (w.drewN q) := ⟨rfl, rfl, rfl, Nat.le_refl _, fun _ _ => rfl⟩
theorem ClS.bd {S R : List (List Rg)} {f : Int} (h : ClS S R f) {c : List Rg} (hc : c ∈ R) : ∀ r ∈ c, -1 ≤ r.2 ∧ r.2 ≤ 1114111 := both_bd (h.each c hc).2.2
theorem nthS_mem {R : List (List Rg)} {k : Nat} (h : k < R.length) : nthS R k ∈ R := by rw [nthS_get h]; exact List.getElem_mem h
theorem frozen_block {w w' : World} {a : Addr} (h : w'.heap[a.block]? = w.heap[a.block]?) : w'.frozen? a = w.frozen? a := by unfold World.frozen?; rw [h]
theorem fst_zero {c : List Rg} : (nthR c 0).1 = fstR c := by cases c <;> rfl

theorem elRow : ElTy Tryz.prog 41 36 1 24 (.slice none 0 0) := ⟨Tryz.underlying41, by kernel_rfl, rfl, by decide⟩
theorem ownsRow_base {w : World} {base base' : Nat} {e : TypeId} {n k : Nat} {v : Value} {l : List Value} (h : w.ownsRow base e k v n l) (hb : base' ≤ base) : w.ownsRow base' e k v n l :=
  ⟨h.1, h.2.imp id fun ⟨g, cap, cur, a, b, c⟩ => ⟨g, cap, cur, a, Nat.le_trans hb b, c⟩⟩
theorem ClV.base {w : World} {base base' : Nat} {v : Value} {vs : List Value} {R : List (List Rg)} (h : ClV w base v vs R) (hb : base' ≤ base) : ClV w base' v vs R :=
  ⟨h.l, ownsRow_base h.row hb, fun k u hk => (h.cl k u hk).base hb, h.ap, h.ro⟩

set_option maxHeartbeats 4000000 in
theorem rClasses_any (A : Option Addr) (n c : Nat) (S : List (List Rg)) (w : World) (B : Nat) (hB : B ≤ w.heap.size) (hr : RdS w B A S) (hl : S.length = n) (hn : n ≤ 160 ∧ totR S ≤ 160) (hs : ∀ s ∈ S, s.length ≤ 60) :
    Calls Tryz.prog 39 #[.slice A n c] w fun e w' => ∃ v vs R, e = .returned v ∧ ClV w' w.heap.size v vs R ∧ Parted S R ∧ Below w.heap.size w w' ∧ R.length ≤ 400 ∧ totR R ≤ 400 := by
  have HR := Lib.hid hr; have HL := Lib.hid hl; have HS := Lib.hid hs
  have hw1 : EdW w (w.alloc (.cells #[.int .i64 0, .int .i64 1114112] 3)) w.heap.size 0 2 [0, 1114112] := ⟨by decide, by unfold maxLen; decide, fun _ => ⟨w.heap.size, 0, rfl, by simp, fun j u hu => by
    rw [cell_of_row _ w.heap.size (0 + j) #[.int .i64 0, .int .i64 1114112] 3 (0, 0) (heap_alloc_new w _), Nat.zero_add]; simpa using hu⟩, (Below.refl _ w).alloc (Nat.le_refl _) _⟩
  have HW1 := Lib.hid hw1
  clear hr hl hs hw1
  go_enter Tryz.func39, Tryz.ntmps39
  go_wp2_with fail
  refine (ends_any w).mono ?_
  rintro e w1 ⟨rfl, hw1e⟩
  rw [← hw1e] at HW1
  clear hw1e
  go_wp2_with fail
  go_loopw [3, 4] (fun v i wr => ∃ (k : Nat) (b off ce : Nat) (E : List Int), k ≤ n ∧ i = .int .i64 (k : Int) ∧ v = .slice (some ⟨b, off, none⟩) E.length ce ∧ Hid (EdW w wr b off ce E) ∧ Hid (EdS E (S.take k)) ∧ Hid (2 ≤ E.length ∧ E.length ≤ 2 + 2 * totR (S.take k))) (fun _ i _ => n - (intOf i).toNat)
  case atStart => exact ⟨0, _, _, _, [0, 1114112], Nat.zero_le _, rfl, rfl, HW1.out, ⟨edg0, fun s hs => (by cases hs)⟩, ⟨by decide, by simp⟩⟩
  case round =>
    as_aux_lemma =>
      clear HW1
      obtain ⟨k, b, off, ce, E, hk, rfl, rfl, HE, HD, HN⟩ := hrel
      by_cases hlt : k < n
      · as_aux_lemma =>
          have hkl : k < S.length := by rw [HL.out]; exact hlt
          obtain ⟨sb, so, rfl, hsb, hsc⟩ := (HR.out.below (HE.out.bel.mono hB)) (by omega)
          obtain ⟨A', c', z1, q1, q2, hrd⟩ := hsc k hkl
          have htt := totR_take_le S k
          have htq : totR (S.take (k + 1)) = totR (S.take k) + (nthS S k).length := by rw [totR_take hkl, nthS_get hkl]
          have hlen : (nthS S k).length ≤ 60 := by rw [nthS_get hkl]; exact HS.out _ (List.getElem_mem hkl)
          obtain ⟨n1, n2⟩ := HN.out
          have HC := Lib.hid (edges_any b off ce E A' (nthS S k).length c' (nthS S k) wr B (by have := HE.out.bel.size; omega) HE.out.self (by omega) (by omega) hrd rfl (by omega))
          have hsn := HD.out.snoc (s := nthS S k)
          have htk : S.take (k + 1) = S.take k ++ [nthS S k] := by rw [List.take_succ_eq_append_getElem hkl, nthS_get hkl]
          rw [← htk] at hsn
          have hel := edg_len (s := nthS S k) (e := E)
          have HSN := Lib.hid hsn
          have HLN : Hid (2 ≤ (edg E (nthS S k)).length ∧ (edg E (nthS S k)).length ≤ 2 + 2 * totR (S.take (k + 1))) := Lib.hid ⟨by omega, by omega⟩
          clear htt htq hsc hrd hsn htk hel hlen n1 n2
          generalize nthS S k = s at *
          go_wp2_with fail
          refine HC.out.mono ?_
          rintro e w2 ⟨b2, off2, c2, rfl, hW2⟩
          have HE2 := Lib.hid (HE.out.from hW2)
          clear hW2 HC
          go_wp2_with fail
          go_roundw
          case rel => exact ⟨k + 1, b2, off2, c2, edg E s, by omega, by go_num, rfl, HE2, HSN, HLN⟩
          case measure => simp [intOf]; omega
      · as_aux_lemma =>
          have htk : S.take k = S := List.take_of_length_le (by rw [HL.out]; omega)
          rw [htk] at HD
          clear htk
          obtain ⟨n1, n2⟩ := HN.out
          have hlen : E.length ≤ 322 := by have := totR_take_le S k; omega
          obtain ⟨bb, oo, ee, hbb, hcs⟩ := HE.out.r.at_ (by omega)
          cases ee
          have HCS := Lib.hid hcs
          have HBW := Lib.hid HE.out.bel
          have HR2 := Lib.hid (HR.out.below (HE.out.bel.mono hB))
          have hBw : B ≤ wr.heap.size := by have := HE.out.bel.size; omega
          have hst := ClS.start (S := S)
          rw [← edg_first HD.out.o] at hst
          have HST := Lib.hid hst
          have HE1 := Lib.hid HE.out.c1
          clear hcs HE HN HR hst
          obtain ⟨w4, rfl⟩ : ∃ w4 : World, w4 = wr := ⟨_, rfl⟩
          go_wp2_with fail
          go_loopw [5, 6] (fun v i wr => ∃ (k : Nat) (vs : List Value) (R : List (List Rg)), k + 1 ≤ E.length ∧ i = .int .i64 (k : Int) ∧ Hid (ClV wr w4.heap.size v vs R) ∧ Hid (ClS S R (nth E k)) ∧ Hid ((R.length ≤ k ∧ totR R ≤ k) ∧ ∀ c ∈ R, c.length ≤ k) ∧ Hid (Below w4.heap.size w4 wr)) (fun _ i _ => E.length - (intOf i).toNat)
          case atStart => exact ⟨0, [], [], by omega, rfl, ClV.nil _ _, HST.out, ⟨⟨Nat.le_refl _, by simp [totR]⟩, fun c hc => (by cases hc)⟩, Below.refl _ _⟩
          case round =>
            as_aux_lemma =>
              clear HST
              obtain ⟨k, vs, R, hk, rfl, HV, HC, HN, HB⟩ := hrel
              have hsz := HB.out.size
              by_cases hlt : k + 1 < E.length
              · as_aux_lemma =>
                  have z1 := (HB.out.cell (p := ⟨b, off + k, none⟩) hbb).trans (HCS.out k (by omega))
                  have z2 := (HB.out.cell (p := ⟨b, off + (k + 1), none⟩) hbb).trans (HCS.out (k + 1) hlt)
                  have bdx := HD.out.o.bd _ (nth_mem (show k < E.length by omega))
                  have bdy := HD.out.o.bd _ (nth_mem hlt)
                  have hxy := asc_nth HD.out.o.asc (Nat.lt_succ_self k) hlt
                  have hcon : ∀ p, nth E k ≤ p → p < nth E (k + 1) → sig S p = sig S (nth E k) := fun p q1 q2 => by
                    rw [nth_get (show k < E.length by omega)] at q1 ⊢
                    rw [nth_get hlt] at q2
                    exact sig_const HD.out.o HD.out.b hlt q1 q2
                  obtain ⟨x, hx⟩ : ∃ x, x = nth E k := ⟨_, rfl⟩
                  obtain ⟨y, hy⟩ : ∃ y, y = nth E (k + 1) := ⟨_, rfl⟩
                  rw [← hx] at z1 bdx hxy hcon HC
                  rw [← hy] at z2 bdy hxy hcon
                  unfold MP at bdx bdy
                  have Z1 := Lib.hid ((HCS.out k (by omega)).trans (by rw [← hx])); have Z2 := Lib.hid ((HCS.out (k + 1) hlt).trans (by rw [← hy]))
                  have HY := Lib.hid hy; have HCON := Lib.hid hcon
                  have hRS := HR2.out.below (HB.out.mono hBw)
                  have HRS := Lib.hid hRS
                  have HNX := Lib.hid (fun (c : List Rg) (hc : c ∈ R) => HC.out.bd hc)
                  clear hx hy hcon hRS
                  obtain ⟨A5, c5, rfl, hc5, hm5, hrd5⟩ := own_form HV.out.row
                  have hRk : R.length ≤ 322 := by have := HN.out.1.1; omega
                  unfold maxLen at hm5
                  have hkE : k < E.length := by omega
                  clear hrd5
                  obtain ⟨wo, rfl⟩ : ∃ wo : World, wo = wr := ⟨_, rfl⟩
                  go_wp2_with fail
                  go_loopw [7] (fun i wi => ∃ (j : Nat), j ≤ R.length ∧ i = .int .i64 (j : Int) ∧ Hid (∃ q, wi = wo.drewN q) ∧ Hid (∀ t, t < j → sig S (fstR (nthS R t)) ≠ sig S x)) (fun i _ => R.length - (intOf i).toNat)
                  case atStart => exact ⟨0, Nat.zero_le _, rfl, ⟨0, rfl⟩, fun t ht => (by omega)⟩
                  case round =>
                    as_aux_lemma =>
                      obtain ⟨j, hj, rfl, HQ, HT⟩ := hrel
                      have hcq : ∀ p, wr.cell? p = wo.cell? p := fun p => by obtain ⟨q, hq⟩ := HQ.out; rw [hq]; rfl
                      have hbq : ∀ B, Below B wo wr := fun B => by obtain ⟨q, hq⟩ := HQ.out; rw [hq]; exact bel_drewN _ _ _
                      have hfq : ∀ p, wr.frozen? p = wo.frozen? p := fun p => by obtain ⟨q, hq⟩ := HQ.out; rw [hq]; rfl
                      have z1 := (hcq _).trans z1
                      have z2 := (hcq _).trans z2
                      by_cases hjl : j < R.length
                      · as_aux_lemma =>
                          obtain ⟨g, cap, e5, hvb, hg1, hg2, hg3, hg4, hfz, hel⟩ := HV.out.at_ (by omega)
                          cases e5
                          obtain ⟨A', c', hvj, zc, hoj, hj1, hj2, hrj⟩ := hel j hjl
                          have hne := (HC.out.each _ (nthS_mem hjl)).1
                          obtain ⟨b', off', rfl, hb', hcs'⟩ := hrj.at_ (by rcases hq : nthS R j with _ | ⟨r, t⟩; exact absurd hq hne; simp)
                          have z3 := (hcs' 0 (by rcases hq : nthS R j with _ | ⟨r, t⟩; exact absurd hq hne; simp)).1
                          rw [fst_zero] at z3
                          simp only [Nat.zero_mul, Nat.add_zero] at z3
                          have z3 := (hcq _).trans z3
                          have zc := (hcq _).trans zc
                          have hf := fun i => (hfq _).trans (hfz i)
                          have hclen := HN.out.2 _ (nthS_mem hjl)
                          have hlpos : 0 < (nthS R j).length := by rcases hq : nthS R j with _ | ⟨r, t⟩; exact absurd hq hne; simp
                          have hal : ∀ d, Calls Tryz.prog 63 #[.slice A n c, .int .i64 (fstR (nthS R j)), .int .i64 x] (wr.drewN d) fun e w' => e = .returned (.bool (decide (sig S (fstR (nthS R j)) = sig S x))) ∧ w' = wr.drewN d := fun d =>
                            (alike_any A n c S (fstR (nthS R j)) x (wr.drewN d) B (HRS.out.below ((hbq _).trans (bel_drewN _ _ _))) HL.out (by omega) (fun s hs => by have := HS.out s hs; omega)).mono fun e w' ⟨h1, h2⟩ => ⟨h1, h2.symm⟩
                          have HSR : Hid (sig S (fstR (nthS R j)) = sig S x → sig S (fstR R[j]) = sig S x) := Lib.hid (fun e => by rw [← nthS_get hjl]; exact e)
                          have HQ2 : Hid (∀ d, ∃ q, wr.drewN d = wo.drewN q) := Lib.hid (fun d => by obtain ⟨q, hq⟩ := HQ.out; exact ⟨q + d, by rw [hq, World.drewN_drewN]⟩)
                          have hvj0 := hvj
                          have HVJ := Lib.hid hvj; have HOJ := Lib.hid hoj
                          have HCJ := Lib.hid (show nthS R j = R[j] from nthS_get hjl)
                          have hsd : sig S (fstR (nthS R j)) = sig S x → True := fun _ => trivial
                          by_cases hs : sig S (fstR (nthS R j)) = sig S x
                          · as_aux_lemma =>
                              have HSE := Lib.hid (HSR.out hs)
                              clear HSR
                              rw [decide_eq_true hs] at hal
                              have HAL := Lib.hid hal
                              have dj : ((j : Int) == (R.length : Int)) = false := by simp; omega
                              clear hal hs hsd hne hvj hoj hcs' hel
                              have HHF := Lib.hid (hf j)
                              have HBQ := Lib.hid (hbq w4.heap.size)
                              have HVQ : Hid (∀ d, ClV (wr.drewN d) w4.heap.size (.slice (some ⟨g, 0, none⟩) R.length c5) vs R) := Lib.hid (fun d => HV.out.ext ((hbq _).trans (bel_drewN _ _ _)))
                              have HOQ : Hid (∀ d, OwG (wr.drewN d) w4.heap.size (.slice (some ⟨b', off', none⟩) (nthS R j).length c') (nthS R j)) := Lib.hid (fun d => (HVQ.out d).cl j _ hvj0)
                              clear hcq hbq hfq hfz hf hvj0
                              have HLN := Lib.hid hclen
                              have HNB := Lib.hid (HNX.out _ (nthS_mem hjl))
                              generalize nthS R j = c0 at *
                              generalize fstR c0 = f0 at *
                              clear hclen
                              go_wp2_with fail
                              go_quiet ((go_at_call 63; exact Calls.quiet_of_same (HAL.out _)))
                              go_wp2_with fail
                              obtain ⟨wd, hwd⟩ : ∃ wd, wd = wr.drewN (nq + 1) := ⟨_, rfl⟩
                              have HVD := Lib.hid (show ClV wd w4.heap.size (.slice (some ⟨g, 0, none⟩) R.length c5) vs R by rw [hwd]; exact HVQ.out _)
                              have YFZ := Lib.hid (show wd.frozen? ⟨g, j, none⟩ = false by rw [hwd]; exact HHF.out)
                              have HBD := Lib.hid (show Below w4.heap.size w4 wd by rw [hwd]; exact HB.out.trans (HBQ.out.trans (bel_drewN _ _ _)))
                              have y1 : wd.cell? ⟨b, off + k, none⟩ = some (.int .i64 x) := by rw [hwd]; exact z1
                              have y2 : wd.cell? ⟨b, off + (k + 1), none⟩ = some (.int .i64 y) := by rw [hwd]; exact z2
                              have yc : wd.cell? ⟨g, j, none⟩ = some (.slice (some ⟨b', off', none⟩) c0.length c') := by rw [hwd]; exact zc
                              have HGC := Lib.hid (growX_any w4.heap.size (.slice (some ⟨b', off', none⟩) c0.length c') c0 x (y - 1) wd (by rw [hwd]; exact HOQ.out _) HBD.out.size (by have := HLN.out; omega) HNB.out)
                              refine wp_region_moves 2 16 (by kernel_rfl) (by kernel_rfl) (by kernel_rfl) (fun _ _ d _ _ h => by cases d <;> exact h) ?_
                              rw [show (wr.drewN nq).drew = wd from hwd.symm]
                              clear hwd z1 z2 zc z3
                              simp only [List.take_succ_cons, List.take_zero, List.drop_succ_cons, List.drop_zero]
                              repeat (first | go_big_quiet_skip | (go_big_quiet_want; go_big_quiet_op; go_big_quiet_on))
                              refine wpQuiet_nil ?_
                              go_wp2_with fail
                              refine HGC.out.mono ?_
                              rintro e w5 ⟨v5, rfl, ho5, hg5, hf5⟩
                              obtain ⟨A6, c6, rfl, _, _, _⟩ := ho5.form
                              have hro : some g ≠ (.slice (some ⟨b', off', none⟩) c0.length c' : Value).ownBlock := fun e => HVD.out.ro j _ g HVJ.out e.symm rfl
                              have hgw : g < wd.heap.size := (HVD.out.row.lt g rfl).2
                              have hgb : w4.heap.size ≤ g := (HVD.out.row.lt g rfl).1
                              have hblk := hg5.block g hgw hro
                              have yf : w5.frozen? ⟨g, j, none⟩ = false := by rw [frozen_block hblk]; exact YFZ.out
                              have yd := (World.cell?_of_block (a := ⟨g, j, none⟩) hblk).trans yc
                              have HV5 := Lib.hid (HVD.out.grow HVJ.out rfl hg5 ho5 hf5 rfl)
                              have HB5 := Lib.hid ((HBD.out.grown hg5 HBD.out.size (fun k e => ((HVD.out.cl j _ HVJ.out).lt k e).1)).setCell (p := ⟨g, j, none⟩) hgb (.slice A6 (growR c0 x (y - 1)).length c6))
                              clear ho5 hg5 hf5 hro hblk y1 y2 yc hgw hgb
                              go_wp2_with fail
                              go_roundw
                              case rel =>
                                have hjl2 : j < R.length := hjl
                                have hset : R.set j (growR c0 x (y - 1)) = R.set j (growR R[j] x (y - 1)) := by rw [HCJ.out]
                                have hcs2 := HC.out.grow bdx.1 hxy bdy.2 HCON.out hjl2 HSE.out
                                rw [← hset, HY.out] at hcs2
                                refine ⟨k + 1, _, R.set j (growR c0 x (y - 1)), by omega, by go_num, HV5, Lib.hid (by rw [← HY.out] at hcs2 ⊢; exact hcs2), Lib.hid ⟨⟨by rw [List.length_set]; have := HN.out.1.1; omega, by
                                    have h1 := totR_set (c := growR c0 x (y - 1)) hjl2
                                    have h2 := growR_len (out := c0) (lo := x) (hi := y - 1)
                                    have h3 := congrArg List.length HCJ.out
                                    have h4 := HN.out.1.2
                                    omega⟩, fun c hc => ?_⟩, HB5⟩
                                rcases List.mem_or_eq_of_mem_set hc with q | q
                                · have := HN.out.2 c q; omega
                                · rw [q]; have h1 := HLN.out; have h2 := growR_len (out := c0) (lo := x) (hi := y - 1); omega
                              case measure => simp [intOf]; omega
                          · as_aux_lemma =>
                              have HT2 : Hid (∀ t, t < j + 1 → sig S (fstR (nthS R t)) ≠ sig S x) := Lib.hid (fun t ht => by
                                by_cases e : t = j
                                · subst e; exact hs
                                · exact HT.out t (by omega))
                              rw [decide_eq_false hs] at hal
                              have HAL := Lib.hid hal
                              clear hal hs hsd hne hvj hoj hcs' hel hclen HVJ HOJ HCJ HSR hvj0 hcq hbq hfq hfz hf
                              generalize nthS R j = c0 at *
                              generalize fstR c0 = f0 at *
                              go_wp2_with fail
                              go_quiet ((go_at_call 63; exact Calls.quiet_of_same (HAL.out _)))
                              go_wp2_with fail
                              go_roundw
                              case rel => exact ⟨j + 1, by omega, by go_num, HQ2.out nq, HT2⟩
                              case measure => simp [intOf]; omega
                      · as_aux_lemma =>
                          have hjR : j = R.length := by omega
                          subst hjR
                          have dj : ((R.length : Int) == (R.length : Int)) = true := by simp
                          have HQ1 := Lib.hid (hbq w4.heap.size)
                          have HVW := Lib.hid (show ClV wr w4.heap.size (.slice A5 R.length c5) vs R from HV.out.ext (hbq _))
                          have HBQ := Lib.hid (HB.out.trans (hbq w4.heap.size))
                          have z1w := z1
                          clear hcq hbq hfq
                          go_wp2_with (at_builtin; refine wpList_app elRow rfl (.tmp 53) (.tmp 54) rfl w4.heap.size _ R.length 1 vs [.slice none 0 0] rfl HVW.out.row rfl rfl (by simp [Value.oneCell']) (by omega) (by omega) HBQ.out.size ?_; intro v6 w6 hown6 hg6 hat6; have HV6 := Lib.hid (HVW.out.append hg6 hown6 hat6); have HB6 := Lib.hid (HBQ.out.grown hg6 HBQ.out.size (fun k e => own_base HVW.out.row k e)); clear hown6 hg6 hat6)
                          have hl6 : (R ++ [([] : List Rg)]).length = R.length + 1 := by simp
                          obtain ⟨g6, cap6, e6, hvb6, hg61, hg62, hg63, hg64, hfz6, hel6⟩ := HV6.out.at_ (by omega)
                          rw [hl6] at e6 hg63
                          subst e6
                          obtain ⟨A6, c6, hvj6, zc6, -, hcc6, hcm6, -⟩ := hel6 R.length (by omega)
                          have hat : (vs ++ [Value.slice none 0 0])[R.length]? = some (.slice none 0 0) := by rw [← HV.out.l]; simp
                          rw [hat, show nthS (R ++ [[]]) R.length = [] by rw [nthS_append, if_neg (by omega), if_pos rfl]] at hvj6
                          rw [show nthS (R ++ [[]]) R.length = [] by rw [nthS_append, if_neg (by omega), if_pos rfl]] at zc6
                          simp only [Option.some.injEq, Value.slice.injEq] at hvj6
                          obtain ⟨rfl, -, rfl⟩ := hvj6
                          obtain ⟨wd, hwd⟩ : ∃ wd, wd = w6.drew := ⟨_, rfl⟩
                          have hbel6 : Below w6.heap.size w6 wd := by rw [hwd]; exact ⟨rfl, rfl, rfl, Nat.le_refl _, fun _ _ => rfl⟩
                          have HVD := Lib.hid (HV6.out.ext hbel6)
                          have HVJ := Lib.hid hat
                          have HBD := Lib.hid (show Below w4.heap.size w4 wd by rw [hwd]; exact HB6.out.trans ⟨rfl, rfl, rfl, Nat.le_refl _, fun _ _ => rfl⟩)
                          have YFZ := Lib.hid (show wd.frozen? ⟨g6, R.length, none⟩ = false by rw [hwd]; exact hfz6 _)
                          have y1 : wd.cell? ⟨b, off + k, none⟩ = some (.int .i64 x) := (HBD.out.cell (p := ⟨b, off + k, none⟩) hbb).trans Z1.out
                          have y2 : wd.cell? ⟨b, off + (k + 1), none⟩ = some (.int .i64 y) := (HBD.out.cell (p := ⟨b, off + (k + 1), none⟩) hbb).trans Z2.out
                          have yc : wd.cell? ⟨g6, R.length, none⟩ = some (.slice none 0 0) := by rw [hwd]; exact zc6
                          have HGC := Lib.hid (growX_any w4.heap.size (.slice none 0 0) [] x (y - 1) wd (OwG.nil _ _) HBD.out.size (by simp) (fun r hr => (by cases hr)))
                          unfold maxLen at hg64
                          have hlt6 : R.length < R.length + 1 := Nat.lt_succ_self _
                          refine wp_region_moves 2 16 (by kernel_rfl) (by kernel_rfl) (by kernel_rfl) (fun _ _ d _ _ h => by cases d <;> exact h) ?_
                          rw [show w6.drew = wd from hwd.symm]
                          clear hwd hbel6 hfz6 hel6 zc6 hat hcc6 hcm6 z1 z2 dj hl6 hvb6 hjl hj z1w
                          simp only [List.take_succ_cons, List.take_zero, List.drop_succ_cons, List.drop_zero]
                          repeat (first | go_big_quiet_skip | (go_big_quiet_want; go_big_quiet_op; go_big_quiet_on))
                          refine wpQuiet_nil ?_
                          go_wp2_with fail
                          refine HGC.out.mono ?_
                          rintro e w5 ⟨v5, rfl, ho5, hg5, hf5⟩
                          obtain ⟨A7, c7, rfl, _, _, _⟩ := ho5.form
                          have hro : some g6 ≠ (.slice none 0 0 : Value).ownBlock := fun e => by cases e
                          have hgw : g6 < wd.heap.size := (HVD.out.row.lt g6 rfl).2
                          have hgb : w4.heap.size ≤ g6 := (HVD.out.row.lt g6 rfl).1
                          have hblk := hg5.block g6 hgw hro
                          have yf : w5.frozen? ⟨g6, R.length, none⟩ = false := by rw [frozen_block hblk]; exact YFZ.out
                          have yd := (World.cell?_of_block (a := ⟨g6, R.length, none⟩) hblk).trans yc
                          have HV5 := Lib.hid (HVD.out.grow HVJ.out rfl hg5 ho5 hf5 rfl)
                          have HB5 := Lib.hid ((HBD.out.grown hg5 HBD.out.size (fun k e => (by cases e))).setCell (p := ⟨g6, R.length, none⟩) hgb (.slice A7 (growR [] x (y - 1)).length c7))
                          clear ho5 hg5 hf5 hro hblk y1 y2 yc hgw hgb
                          go_wp2_with fail
                          go_roundw
                          case rel =>
                            have hs2 : ∀ c ∈ R, sig S (fstR c) ≠ sig S x := fun c hc => by
                              obtain ⟨i, hi, rfl⟩ := List.getElem_of_mem hc
                              rw [← nthS_get hi]; exact HT.out i hi
                            have hset : (R ++ [[]]).set R.length (growR [] x (y - 1)) = R ++ [[(x, y - 1)]] := by
                              rw [List.set_append_right _ _ (Nat.le_refl _), Nat.sub_self]; rfl
                            have hcs2 := HC.out.new bdx.1 hxy bdy.2 HCON.out hs2
                            rw [← hset, HY.out] at hcs2
                            refine ⟨k + 1, _, (R ++ [[]]).set R.length (growR [] x (y - 1)), by omega, by go_num, HV5, Lib.hid (by rw [← HY.out] at hcs2 ⊢; exact hcs2), Lib.hid ⟨⟨by rw [List.length_set]; have := HN.out.1.1; simp; omega, by rw [hset, totR_snoc]; have := HN.out.1.2; simp; omega⟩, fun c hc => ?_⟩, HB5⟩
                            rw [hset, List.mem_append, List.mem_singleton] at hc
                            rcases hc with q | q
                            · have := HN.out.2 c q; omega
                            · rw [q]; simp
                          case measure => simp [intOf]; omega
              · as_aux_lemma =>
                  have hcl := HC.out
                  rw [edg_last HD.out.o (by omega)] at hcl
                  have HCL := Lib.hid hcl.done
                  clear hcl HC
                  go_wp2_with fail
                  go_ret
                  exact ⟨_, vs, R, rfl, HV.out.base HBW.out.size, HCL.out, HBW.out.trans (HB.out.mono HBW.out.size), by have := HN.out.1.1; omega, by have := HN.out.1.2; omega⟩
end Go.Proofs.YtkcpfpofimkkiaaGreatDoor
