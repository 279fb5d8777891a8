/- A region that draws its order: operations ahead that touch no memory and that nobody may wait for, then still ones, then a tail in one order (a call that makes memory, an address, a store). · Automata in memory; the contracts of ref1.AutoOk and auto.Ok. -/
import Derived.StillTailTactics
import Derived.BigQuiet
import Derived.Test.YthikgdogfkjioaaGreatDoorQ6
import Derived.Test.YthikgdogfkjioaaGreatDoorProg
import Derived.Test.YthikgdogfkjioaaGreatDoorQ1
import Derived.WalkSpells
import Derived.WalkLawsBesides
import Derived.Handy
import Derived.Deep.QuietTactic
namespace Go.Proofs.YthikgdogfkjioaaGreatDoor
open Go
set_option linter.unusedVariables false
set_option linter.unusedSimpArgs false

section
variable {P : Program} {ops : Array Oper} {md : Region.Mode} {w : World}
/-- Each of the first n that is not marked in L0 is waited for by one behind it, up to n. -/
def sinkL (md : Region.Mode) (ops : Array Oper) (n : Nat) (L0 : Array Bool) : Bool :=
  (List.range n).all fun i => L0.getD i false || (List.range (n + 1)).any fun j => decide (i < j) && Region.waitsFor md ops j i
def Over (L0 listed : Array Bool) : Prop := ∀ j, L0.getD j false = true → listed.getD j false = true
theorem Over.set {L0 listed : Array Bool} (h : Over L0 listed) (i : Nat) : Over L0 (listed.setIfInBounds i true) := fun j hj => getD_set_true (h j hj)
theorem tailL {n : Nat} {L0 listed : Array Bool} (hs : sinkL md ops n L0 = true) (hc : Region.chainB md ops n = true) (hn : n < ops.size) (inv : HeadInv md ops n listed) (ho : Over L0 listed) :
    ∀ (d i : Nat), n - i ≤ d → i < n → listed.getD i true = false → ∀ t, n ≤ t → t ∉ Region.ready md ops listed
  | 0, i, hd, hi, _, _, _ => by omega
  | d + 1, i, hd, hi, hun, t, ht => fun hr => by
    obtain ⟨_, ot, hot, hall⟩ := mem_ready.1 hr
    have htl : t < ops.size := (Array.getElem?_eq_some_iff.1 hot).1
    have noEdge : ∀ (e : Edge), e ∈ ot.after → Region.binds md e = true → listed.getD e.on true = false → False := fun e he hb hl => by
      have := hall e he hb
      rw [getD_both hl] at this
      cases this
    rcases Nat.lt_or_ge n t with q | q
    · have h1 := List.all_eq_true.1 hc t (List.mem_range.2 htl)
      simp only [Bool.or_eq_true, decide_eq_true_eq] at h1
      rcases h1 with h1 | h1
      · omega
      · obtain ⟨o2, ho2, e, he, hb, hon⟩ := Region.waitsFor_spec h1
        rw [hot] at ho2
        cases ho2
        exact noEdge e he hb (by rw [hon]; exact inv.tail (t - 1) (by omega) (by omega))
    · obtain rfl : t = n := by omega
      have h1 := List.all_eq_true.1 hs i (List.mem_range.2 hi)
      rw [Bool.or_eq_true] at h1
      rcases h1 with h1 | h1
      · have := ho i h1
        rw [getD_both hun] at this
        cases this
      · obtain ⟨j, hj, hj2⟩ := List.any_eq_true.1 h1
        simp only [Bool.and_eq_true, decide_eq_true_eq] at hj2
        have hjt : j ≤ t := by have := List.mem_range.1 hj; omega
        obtain ⟨oj, hoj, e, he, hb, hon⟩ := Region.waitsFor_spec hj2.2
        by_cases hjn : j = t
        · subst hjn
          rw [hot] at hoj
          cases hoj
          exact noEdge e he hb (by rw [hon]; exact hun)
        · cases hl : listed.getD j false with
          | true =>
            have := inv.closed j oj hoj hl e he hb
            rw [hon, getD_both hun] at this
            cases this
          | false => exact tailL hs hc hn inv ho d j (by omega) (by omega) (getD_in (by rw [inv.size]; omega) hl) t ht hr

theorem firstL {n i : Nat} {oi : Oper} {v : Value} {L0 : Array Bool} {L : Array Bool → Act → Prop} (hi : ops[i]? = some oi) (hsel : ∀ (j : Nat) (o : Oper) cs b, ops[j]? = some o → o.op ≠ .select cs b)
    (hs : sinkL md ops n L0 = true) (hc : Region.chainB md ops n = true) (hn : n < ops.size) (hin : i < n)
    (hdone : ∀ listed a, L listed a → ∀ j ∈ Region.ready md ops listed, n ≤ j) :
    ∀ (f : Nat) (listed : Array Bool) (a : Act), HeadInv md ops n listed → Over L0 listed →
      (∀ j oj, ops[j]? = some oj → j ≠ i → listed.getD j true = false → (∀ e ∈ oj.after, Region.binds md e = true → e.on ≠ i) → oi.apart ops oj = true) →
      i ∈ Region.ready md ops listed → YieldsAt P ops w oi v a →
      wpAnyL P md ops w n L f (listed.setIfInBounds i true) (a.put oi.dst v) → wpAnyL P md ops w n L (f + 1) listed a := by
  intro f
  induction f with
  | zero =>
    intro listed a inv ho _ hr hy H
    have hun := (mem_ready.1 hr).1
    refine ⟨fun h => (by rw [h] at hr; cases hr), fun j hj => ?_⟩
    have hjn : j < n := Nat.lt_of_not_le fun q => tailL hs hc hn inv ho _ i (Nat.le_refl _) hin hun j q hj
    by_cases hji : j = i
    · subst hji; exact ⟨hjn, hy.stOp hi H⟩
    · have := hdone _ _ H j (ready_mono hj hji); omega
  | succ f ih =>
    intro listed a inv ho hfree hr hy H
    have hun := (mem_ready.1 hr).1
    refine ⟨fun h => (by rw [h] at hr; cases hr), fun j hj => ?_⟩
    have hjn : j < n := Nat.lt_of_not_le fun q => tailL hs hc hn inv ho _ i (Nat.le_refl _) hin hun j q hj
    by_cases hji : j = i
    · subst hji; exact ⟨hjn, hy.stOp hi H⟩
    · obtain ⟨hjun, oj, hoj, hall⟩ := mem_ready.1 hj
      have hno : ∀ e ∈ oj.after, Region.binds md e = true → e.on ≠ i := fun e he hb q => by
        have := hall e he hb
        rw [q, getD_both hun] at this
        cases this
      have h2 := stOp_put hoj (hfree j oj hoj hji hjun hno) (fun cs b => hsel i oi cs b hi) (fun cs b => hsel j oj cs b hoj) hy (H.2 j (ready_mono hj hji)).2
      refine ⟨hjn, stOp_mono (fun a' h3 => ih (listed.setIfInBounds j true) a' (inv.set hj hjn) (ho.set j) (fun k ok hk hki hku hkn => hfree k ok hk hki ?_ hkn) (ready_mono hr (Ne.symm hji)) h3.1 ?_) h2⟩
      · by_cases q : j = k
        · subst q; exact hjun
        · rw [getD_set_ne true q] at hku; exact hku
      · rw [Array.setIfInBounds_comm _ _ hji]; exact h3.2

theorem lexL {n g : Nat} {L0 : Array Bool} {Lq : Act → Prop} (hsel : Region.noSelect ops = true) (hs : sinkL md ops n L0 = true) (hc : Region.chainB md ops n = true) (hn : n < ops.size) :
    ∀ (l : List Oper) (k : Nat) (listed : Array Bool) (a : Act), (∀ j, j < l.length → l[j]? = ops[k + j]?) → k + l.length = n → HeadInv md ops n listed → Over L0 listed →
    Region.lexHead md ops g l.length k listed = true → wpStill P ops w Lq l a →
    wpAnyL P md ops w n (fun listed' a' => Region.seqB md ops g n listed' = true ∧ Lq a') l.length listed a
  | [], k, listed, a, _, hk, _, _, hB, h => by
    obtain rfl : k = n := by simpa using hk
    exact ⟨by simpa [Region.lexHead] using hB, h⟩
  | o :: l, k, listed, a, hl, hk, inv, ho, hB, h => by
    have h0 : ops[k]? = some o := by simpa using (hl 0 (by simp)).symm
    simp only [List.length_cons, Region.lexHead, Bool.and_eq_true] at hB
    obtain ⟨⟨hr, hf⟩, hB2⟩ := hB
    have hkn : k < n := by simp only [List.length_cons] at hk; omega
    have hr2 : k ∈ Region.ready md ops listed := by simpa using hr
    obtain ⟨v, hy, hK⟩ := yieldsAt_of_stOp h0 (show stOp P ops w k (wpStill P ops w Lq l) a by unfold stOp; simp only [h0]; exact h)
    exact firstL h0 (Region.noSelect_spec hsel) hs hc hn hkn (fun _ _ hL => seqB_ready hL.1) l.length listed a inv ho (Region.free_spec h0 hf) hr2 hy
      (lexL hsel hs hc hn l (k + 1) _ _ (fun j hj => by have := hl (j + 1) (by simp; omega); simpa [Nat.add_assoc, Nat.add_comm 1 j] using this) (by simp only [List.length_cons] at hk; omega) (inv.set hr2 hkn) (ho.set k) hB2 hK)

/-- The operations of a list in their order, each of which yields its value in whatever world. -/
def wpYld (P : Program) (ops : Array Oper) (K : Act → Prop) : List Oper → Act → Prop
  | [], a => K a
  | o :: l, a => ∃ v, Yields P ops o v a ∧ wpYld P ops K l (a.put o.dst v)
/-- They may come first; behind them stands 'listed'. -/
def yldB (md : Region.Mode) (ops : Array Oper) : Nat → Nat → Array Bool → Bool × Array Bool
  | 0, _, listed => (true, listed)
  | f + 1, k, listed => let r := yldB md ops f (k + 1) (listed.setIfInBounds k true); ((Region.ready md ops listed).contains k && Region.free md ops listed k && r.1, r.2)
theorem wpAny_yld {Q : Exit → Act → World → Prop} (hsel : Region.noSelect ops = true) (hQ : ∀ c a d v w, Q (.panic c) (a.put d v) w → Q (.panic c) a w) {g : Nat} {K : Act → Prop} :
    ∀ (l : List Oper) (k : Nat) (listed : Array Bool) (a : Act), (∀ j, j < l.length → l[j]? = ops[k + j]?) → (yldB md ops l.length k listed).1 = true →
    (∀ a', K a' → wpAny P md ops Q g (yldB md ops l.length k listed).2 a' w) → wpYld P ops K l a → wpAny P md ops Q (g + l.length) listed a w
  | [], k, listed, a, _, _, hK, h => hK a h
  | o :: l, k, listed, a, hl, hB, hK, h => by
    have h0 : ops[k]? = some o := by simpa using (hl 0 (by simp)).symm
    simp only [List.length_cons, yldB, Bool.and_eq_true] at hB hK
    obtain ⟨⟨hr, hf⟩, hB2⟩ := hB
    obtain ⟨v, hy, h2⟩ := h
    exact wpAny_take h0 hsel hf hr (fun c a w q => hQ c a _ _ w q) hy
      (wpAny_yld hsel hQ l (k + 1) _ _ (fun j hj => by have := hl (j + 1) (by simp; omega); simpa [Nat.add_assoc, Nat.add_comm 1 j] using this) hB2 hK h2)
/-- What is to be checked of the region: m ahead that touch no memory, still ones up to n, a tail in one order. -/
def stragB (md : Region.Mode) (ops : Array Oper) (m n : Nat) : Bool :=
  let r := yldB md ops m 0 (Array.replicate ops.size false)
  Region.noSelect ops && decide (n < ops.size) && decide (m ≤ n) && r.1 && sinkL md ops n r.2 && Region.chainB md ops n && Region.lexHead md ops (ops.size - n) (n - m) m r.2
theorem yldB_head {n : Nat} : ∀ (f k : Nat) (listed : Array Bool), k + f ≤ n → HeadInv md ops n listed → (yldB md ops f k listed).1 = true → HeadInv md ops n (yldB md ops f k listed).2
  | 0, k, listed, _, inv, _ => inv
  | f + 1, k, listed, h, inv, hB => by
    simp only [yldB, Bool.and_eq_true] at hB ⊢
    exact yldB_head f (k + 1) _ (by omega) (inv.set (by simpa using hB.1.1) (by omega)) hB.2
theorem wp_region_strag {id : Nat} {Q : Exit → Act → World → Prop} {a : Act} {w : World} {l : List Oper} (m n : Nat) (hm : P.follows .mixedOrders = true) (hB : stragB .any l.toArray m n = true)
    (hQ : ∀ c a d v w, Q (.panic c) (a.put d v) w → Q (.panic c) a w)
    (h : wpYld P l.toArray (fun a' => wpStill P l.toArray w.drew (fun a'' => wpList P l.toArray Q (l.drop n) a'' w.drew) ((l.drop m).take (n - m)) a') (l.take m) a) : (Code.region id l.toArray true).wp P Q a w := by
  simp only [stragB, Bool.and_eq_true, decide_eq_true_eq] at hB
  obtain ⟨⟨⟨⟨⟨⟨hsel, hn⟩, hmn⟩, hy⟩, hs⟩, hc⟩, hlex⟩ := hB
  have hn2 : n < l.length := by simpa using hn
  have hlm : (l.take m).length = m := by simp; omega
  have hlh : ((l.drop m).take (n - m)).length = n - m := by simp; omega
  have hld : (l.drop n).length = l.toArray.size - n := by simp
  have inv0 : HeadInv .any l.toArray n (Array.replicate l.toArray.size false) :=
    ⟨by simp, fun j oj _ q => (by rw [getD_replicate_false] at q; cases q), fun t _ ht => getD_in (by simpa using ht) (getD_replicate_false _ _)⟩
  have inv1 := yldB_head m 0 _ (by omega) inv0 hy
  refine wp_region_any hm ?_
  have key := wpAny_yld (md := .any) (Q := Q) (w := w.drew) (g := n - m + (l.toArray.size - n)) hsel hQ (l.take m) 0 (Array.replicate l.toArray.size false) a
    (fun j hj => by rw [hlm] at hj; simp [hj]) (by rw [hlm]; exact hy) (fun a' ha' => by
      rw [hlm]
      have H := lexL (md := .any) (g := l.toArray.size - n) hsel hs hc hn ((l.drop m).take (n - m)) m _ a' (fun j hj => by
        rw [hlh] at hj
        simp [hj]) (by rw [hlh]; omega) inv1 (fun _ q => q) (by rw [hlh]; exact hlex) ha'
      have := wpAny_of_head (Q' := Q) (g := l.toArray.size - n) (fun listed a' hL => by
        have := wpAny_of_seq (md := .any) (Q' := Q) (l.drop n) n listed a' w.drew (fun j => by simp [List.getElem?_drop]) (by rw [hld]; exact hL.1) hL.2
        rwa [hld] at this) _ _ _ H
      rwa [hlh] at this) h
  rw [hlm, show n - m + (l.toArray.size - n) + m = l.toArray.size by omega] at key
  exact key
/-- Unguarded copies of slots. -/
def movesB (l : List Oper) : Bool := l.all fun o => (match o.op with | .move _ => true | _ => false) && o.guard.isNone
theorem wpYld_of_quiet {K : Act → Prop} (l2 : List Oper) : ∀ (l : List Oper) (a : Act), movesB l = true → wpQuiet P ops (fun w' => w' = w) K (l ++ l2) a → wpYld P ops (fun a' => wpStill P ops w K l2 a') l a
  | [], a, _, h => wpStill_of_quiet _ _ h
  | o :: l, a, hB, h => by
    simp only [movesB, List.all_cons, Bool.and_eq_true] at hB
    obtain ⟨⟨hmv, hg⟩, hB2⟩ := hB
    have hw : Region.wanted o (yielded ops a.tmps) = true := by
      unfold Region.wanted
      cases hgg : o.guard with
      | none => rfl
      | some x => rw [hgg] at hg; cases hg
    have ho : ∃ x, o.op = .move x := by
      revert hmv
      cases o.op <;> simp
    obtain ⟨x, hx⟩ := ho
    rw [List.cons_append] at h
    unfold wpQuiet at h
    rw [if_pos hw] at h
    obtain ⟨v, h1, h2⟩ := h
    have h3 := h1 w rfl
    unfold Oper.quietAt at h3
    have hr : ∀ w, (execOp a.eval o).run P w = .ok (.value (a.eval x)) w := fun w => BigFrame.run_move x hx w
    rw [hr] at h3
    obtain ⟨_, h4⟩ := h3
    exact ⟨v, .inl ⟨hw, fun w => by rw [hr]; rw [h4]⟩, wpYld_of_quiet l2 l _ hB2 h2⟩
theorem wp_region_moves {id : Nat} {Q : Exit → Act → World → Prop} {a : Act} {w : World} {l : List Oper} (m n : Nat) (hm : P.follows .mixedOrders = true) (hB : stragB .any l.toArray m n = true) (hV : movesB (l.take m) = true)
    (hQ : ∀ c a d v w, Q (.panic c) (a.put d v) w → Q (.panic c) a w)
    (h : wpQuiet P l.toArray (fun w' => w' = w.drew) (fun a'' => wpList P l.toArray Q (l.drop n) a'' w.drew) (l.take n) a) : (Code.region id l.toArray true).wp P Q a w := by
  have hB2 := hB
  simp only [stragB, Bool.and_eq_true, decide_eq_true_eq] at hB2
  obtain ⟨⟨⟨⟨⟨⟨_, _⟩, hmn⟩, _⟩, _⟩, _⟩, _⟩ := hB2
  refine wp_region_strag m n hm hB hQ (wpYld_of_quiet _ _ _ hV ?_)
  have e : l.take m ++ (l.drop m).take (n - m) = l.take n := by
    rw [← List.drop_take]
    have : l.take m = (l.take n).take m := by rw [List.take_take, Nat.min_eq_left hmn]
    rw [this, List.take_append_drop]
  rw [e]; exact h
end
end Go.Proofs.YthikgdogfkjioaaGreatDoor
namespace Go.Proofs.YthikgdogfkjioaaGreatDoor
open Go.RowKit
set_option linter.unusedVariables false
set_option linter.unusedSimpArgs false
set_option maxRecDepth 100000

abbrev Mv := Int × Int × Int
abbrev St := Int × List Mv
def shMove : Sh Mv := shP shInt (shP shInt shInt)
def shState : Sh St := shP shInt (shL shMove)

theorem move_cells {w : World} {F : Nat → Prop} {m : Mv} {d : List Value} (h : shMove.rd w F m d) : d = [.int .i64 m.1, .int .i64 m.2.1, .int .i64 m.2.2] := by
  obtain ⟨c1, d1, rfl, ⟨rfl, _⟩, c2, d2, rfl, ⟨rfl, _⟩, ⟨rfl, _⟩⟩ := h
  rfl
theorem moves_at {w : World} {F : Nat → Prop} {l : List Mv} {A : Option Addr} {n c : Nat} (h : (shL shMove).rd w F l [.slice A n c]) (hl : 0 < l.length) :
    ∃ b off, A = some ⟨b, off, none⟩ ∧ F b ∧ ∀ (k : Nat) (m : Mv), l[k]? = some m → w.cell? ⟨b, off + k * 3, none⟩ = some (.int .i64 m.1) ∧ w.cell? ⟨b, off + k * 3 + 1, none⟩ = some (.int .i64 m.2.1) ∧ w.cell? ⟨b, off + k * 3 + 2, none⟩ = some (.int .i64 m.2.2) := by
  obtain ⟨b, off, e, hb, hc⟩ := shL_at h (by decide) hl
  refine ⟨b, off, e, hb, fun k m hm => ?_⟩
  obtain ⟨d, hd, hd'⟩ := hc k m hm
  rw [move_cells hd] at hd'
  exact ⟨hd' 0 _ rfl, hd' 1 _ rfl, hd' 2 _ rfl⟩
theorem states_at {w : World} {F : Nat → Prop} {l : List St} {A : Option Addr} {n c : Nat} (h : (shL shState).rd w F l [.slice A n c]) (hl : 0 < l.length) :
    ∃ b off, A = some ⟨b, off, none⟩ ∧ F b ∧ ∀ (k : Nat) (s : St), l[k]? = some s → w.cell? ⟨b, off + k * 2, none⟩ = some (.int .i64 s.1) ∧ ∃ A' c', w.cell? ⟨b, off + k * 2 + 1, none⟩ = some (.slice A' s.2.length c') ∧ s.2.length ≤ c' ∧ c' ≤ maxLen ∧ (shL shMove).rd w F s.2 [.slice A' s.2.length c'] := by
  obtain ⟨b, off, e, hb, hc⟩ := shL_at h (by decide) hl
  refine ⟨b, off, e, hb, fun k s hs => ?_⟩
  obtain ⟨d, ⟨c1, d1, rfl, ⟨rfl, _⟩, h2⟩, hd'⟩ := hc k s hs
  obtain ⟨A', c', rfl, h3, h4⟩ := shL_form h2
  exact ⟨hd' 0 _ rfl, A', c', hd' 1 _ rfl, h3, h4, h2⟩

/-! ### valid -/
def okM (n : Nat) : Int → List Mv → Bool
  | _, [] => true
  | last, m :: r => (decide (last < m.1) && (decide (m.1 ≤ m.2.1) && (decide (m.2.1 ≤ 1114111) && (decide (0 ≤ m.2.2) && decide (m.2.2 < n))))) && okM n m.2.1 r
def okS (n : Nat) (s : St) : Bool := decide (-1 ≤ s.1) && okM n (-1) s.2
def okA (l : List St) : Bool := decide (l.length ≤ 500) && l.all (okS l.length)

theorem okA_big {l : List St} (h : 500 < l.length) : okA l = false := by
  unfold okA; rw [decide_eq_false (by omega)]; rfl
theorem okA_all {l : List St} {n : Nat} (hl : l.length = n) (h : ¬ 500 < n) (ha : (l.take n).all (okS n) = true) : okA l = true := by
  unfold okA
  rw [hl, decide_eq_true (by omega)]
  rw [List.take_of_length_le (by omega)] at ha
  rw [ha]; rfl
theorem okA_bad {l : List St} {n k : Nat} {s : St} (hl : l.length = n) (hs : l[k]? = some s) (h : okS n s = false) : okA l = false := by
  unfold okA
  rw [hl]
  have : l.all (okS n) = false := by
    rw [List.all_eq_false]
    exact ⟨s, List.mem_of_getElem? hs, by rw [h]; simp⟩
  rw [this, Bool.and_false]
theorem take_all {l : List St} {n k : Nat} {s : St} (ha : (l.take k).all (okS n) = true) (hs : l[k]? = some s) (h : okS n s = true) : (l.take (k + 1)).all (okS n) = true := by
  obtain ⟨hk, rfl⟩ := List.getElem?_eq_some_iff.1 hs
  rw [List.take_succ_eq_append_getElem hk, List.all_append, ha]; simp [h]
def okMv (n : Nat) (last : Int) (m : Mv) : Bool := decide (last < m.1) && (decide (m.1 ≤ m.2.1) && (decide (m.2.1 ≤ 1114111) && (decide (0 ≤ m.2.2) && decide (m.2.2 < n))))
theorem okM_step {n : Nat} {last : Int} {ms : List Mv} {j : Nat} {m : Mv} (hm : ms[j]? = some m) : okM n last (ms.drop j) = (okMv n last m && okM n m.2.1 (ms.drop (j + 1))) := by
  obtain ⟨hj, rfl⟩ := List.getElem?_eq_some_iff.1 hm
  rw [List.drop_eq_getElem_cons hj]; rfl
theorem okMv_yes {n : Nat} {last : Int} {m : Mv} (h1 : last < m.1) (h2 : m.1 ≤ m.2.1) (h3 : m.2.1 ≤ 1114111) (h4 : 0 ≤ m.2.2) (h5 : m.2.2 < n) : okMv n last m = true := by
  simp [okMv, h1, h2, h3, h4, h5]
theorem okMv_no {n : Nat} {last : Int} {m : Mv} (h : ¬ (last < m.1 ∧ m.1 ≤ m.2.1 ∧ m.2.1 ≤ 1114111 ∧ 0 ≤ m.2.2 ∧ m.2.2 < n)) : okMv n last m = false := by
  cases hb : okMv n last m
  · rfl
  · exfalso; apply h
    simpa [okMv] using hb
theorem okA_move {l : List St} {n k : Nat} {s : St} {ms : List Mv} {last : Int} {m : Mv} {rest : Bool} (hl : l.length = n) (hs : l[k]? = some s) (hms : ms = s.2)
    (hst : okM n (-1) ms = (okMv n last m && rest)) (hm : okMv n last m = false) : okA l = false := by
  refine okA_bad hl hs ?_
  unfold okS
  rw [← hms, hst, hm]; simp
theorem okA_rule {l : List St} {n k : Nat} {s : St} (hl : l.length = n) (hs : l[k]? = some s) (h : s.1 < -1) : okA l = false := by
  refine okA_bad hl hs ?_
  unfold okS
  rw [decide_eq_false (by omega)]; rfl

set_option maxHeartbeats 4000000 in
theorem r1AutoOk_any (A : Option Addr) (n c : Nat) (l : List St) (w : World) (h : (shL shState).rd w (Lo w.heap.size) l [.slice A n c]) (hl : l.length = n) (hn : n ≤ 140737488355328) :
    Calls Tryz.prog 5 #[.agg #[.slice A n c]] w fun e w' => e = .returned (.bool (okA l)) ∧ Below w.heap.size w w' := by
  have Hl := Lib.hid hl
  clear hl
  by_cases h500 : 500 < n
  · go_enter Tryz.func5, Tryz.ntmps5
    go_wp2
    go_ret
    exact ⟨ret_eq (by rw [okA_big (by rw [Hl.out]; exact h500)]; rfl), (Below.refl _ _).alloc (Nat.le_refl _) _⟩
  · have hb0 : Below w.heap.size w (w.alloc (.cells #[.slice A n c] 24)) := (Below.refl _ _).alloc (Nat.le_refl _) _
    have hW0 : (w.alloc (.cells #[.slice A n c] 24)).heap.size = w.heap.size + 1 := by simp
    have hc0 : (w.alloc (.cells #[.slice A n c] 24)).cell? ⟨w.heap.size, 0, none⟩ = some (.slice A n c) := by simp
    go_enter Tryz.func5, Tryz.ntmps5
    go_wp2
    generalize w.alloc (.cells #[.slice A n c] 24) = W0 at *
    go_loopw [3] (fun i wr => ∃ k : Nat, k ≤ n ∧ i = .int .i64 k ∧ Hid ((l.take k).all (okS n) = true) ∧ Below (w.heap.size + 1) W0 wr) (fun i _ => n - (intOf i).toNat)
    case atStart => exact ⟨0, Nat.zero_le _, rfl, rfl, Below.refl _ _⟩
    case round =>
      obtain ⟨k, hk, rfl, HT, hbr⟩ := hrel
      have hcr := (hbr.cell (p := ⟨w.heap.size, 0, none⟩) (by simp)).trans hc0
      have hbw := hb0.trans (hbr.mono (Nat.le_succ _))
      have hzr := hbr.size
      by_cases hlt : k < n
      · obtain ⟨s, hs⟩ : ∃ s, l[k]? = some s := ⟨_, List.getElem?_eq_getElem (by rw [Hl.out]; exact hlt)⟩
        obtain ⟨b, off, rfl, hb, hst⟩ := states_at (Sh.below h hbw) (by rw [Hl.out]; omega)
        obtain ⟨g1, A', c', g2, g3, g4, g5⟩ := hst k s hs
        have HS := Lib.hid hs; clear hs
        clear hst
        obtain ⟨ms, hms⟩ : ∃ ms, ms = s.2 := ⟨_, rfl⟩
        obtain ⟨m, hm⟩ : ∃ m, m = ms.length := ⟨_, rfl⟩
        rw [← hms, ← hm] at g2 g3 g5
        have HMS := Lib.hid hms; clear hms
        have HM := Lib.hid hm; clear hm
        unfold maxLen at g4
        go_wp2
        obtain ⟨wo, rfl⟩ : ∃ wo : World, wo = wr := ⟨_, rfl⟩
        go_loopw [4, 5] (fun la i wq => ∃ (j : Nat) (last : Int), j ≤ m ∧ i = .int .i64 j ∧ la = .int .i64 last ∧ Hid (okM n last (ms.drop j) = okM n (-1) ms) ∧ Below (w.heap.size + 1) wo wq) (fun _ i _ => m - (intOf i).toNat)
        case atStart => exact ⟨0, -1, Nat.zero_le _, rfl, rfl, rfl, Below.refl _ _⟩
        case round =>
          obtain ⟨j, last, hj, rfl, rfl, HO, hbq⟩ := hrel
          have hcq := (hbq.cell (p := ⟨w.heap.size, 0, none⟩) (by simp)).trans hcr
          have q1 := (hbq.cell (p := ⟨b, off + k * 2, none⟩) (Nat.lt_succ_of_lt hb)).trans g1
          have q2 := (hbq.cell (p := ⟨b, off + k * 2 + 1, none⟩) (Nat.lt_succ_of_lt hb)).trans g2
          have hzq := hbq.size
          have hz3 : w.heap.size < wr.heap.size := by omega
          have hbn := hbw.trans (hbq.mono (Nat.le_succ _))
          clear g1 g2 hcr hc0
          by_cases hjm : j < m
          · obtain ⟨mv, hmv⟩ : ∃ mv, ms[j]? = some mv := ⟨_, List.getElem?_eq_getElem (by rw [← HM.out]; exact hjm)⟩
            obtain ⟨b2, off2, rfl, hb2, hmt⟩ := moves_at (Sh.below g5 (hbq.mono (Nat.le_succ _))) (by rw [← HM.out]; omega)
            obtain ⟨m1, m2, m3⟩ := hmt j mv hmv
            have hstep := okM_step (n := n) (last := last) hmv
            rw [HO.out] at hstep
            obtain ⟨x, y, z⟩ := mv
            clear hmt HO hmv
            dsimp only at m1 m2 m3 hstep
            have HST := Lib.hid hstep; clear hstep
            by_cases c1 : x ≤ last
            · have d1 : decide (x ≤ last) = true := decide_eq_true c1
              have hno := okMv_no (n := n) (last := last) (m := (x, y, z)) (fun hh => by have := hh.1; dsimp only at this; omega)
              have HN := Lib.hid hno; clear hno
              go_wp2
              go_ret
              exact ⟨ret_eq (by rw [okA_move Hl.out HS.out HMS.out HST.out HN.out]; rfl), hbn.alloc (by omega) _⟩
            have d1 : decide (x ≤ last) = false := decide_eq_false c1
            by_cases c2 : y < x
            · have d2 : decide (y < x) = true := decide_eq_true c2
              have hno := okMv_no (n := n) (last := last) (m := (x, y, z)) (fun hh => by have := hh.2.1; dsimp only at this; omega)
              have HN := Lib.hid hno; clear hno
              go_wp2
              go_ret
              exact ⟨ret_eq (by rw [okA_move Hl.out HS.out HMS.out HST.out HN.out]; rfl), hbn.alloc (by omega) _⟩
            have d2 : decide (y < x) = false := decide_eq_false c2
            by_cases c3 : 1114111 < y
            · have d3 : decide (1114111 < y) = true := decide_eq_true c3
              have hno := okMv_no (n := n) (last := last) (m := (x, y, z)) (fun hh => by have := hh.2.2.1; dsimp only at this; omega)
              have HN := Lib.hid hno; clear hno
              go_wp2
              go_ret
              exact ⟨ret_eq (by rw [okA_move Hl.out HS.out HMS.out HST.out HN.out]; rfl), hbn.alloc (by omega) _⟩
            have d3 : decide (1114111 < y) = false := decide_eq_false c3
            by_cases c4 : z < 0
            · have d4 : decide (z < 0) = true := decide_eq_true c4
              have hno := okMv_no (n := n) (last := last) (m := (x, y, z)) (fun hh => by have := hh.2.2.2.1; dsimp only at this; omega)
              have HN := Lib.hid hno; clear hno
              go_wp2
              go_ret
              exact ⟨ret_eq (by rw [okA_move Hl.out HS.out HMS.out HST.out HN.out]; rfl), hbn.alloc (by omega) _⟩
            have d4 : decide (z < 0) = false := decide_eq_false c4
            by_cases c5 : (n : Int) ≤ z
            · have d5 : decide ((n : Int) ≤ z) = true := decide_eq_true c5
              have hno := okMv_no (n := n) (last := last) (m := (x, y, z)) (fun hh => by have := hh.2.2.2.2; dsimp only at this; omega)
              have HN := Lib.hid hno; clear hno
              go_wp2
              go_ret
              exact ⟨ret_eq (by rw [okA_move Hl.out HS.out HMS.out HST.out HN.out]; rfl), hbn.alloc (by omega) _⟩
            have d5 : decide ((n : Int) ≤ z) = false := decide_eq_false c5
            have hyes := okMv_yes (n := n) (last := last) (m := (x, y, z)) (by dsimp only; omega) (by dsimp only; omega) (by dsimp only; omega) (by dsimp only; omega) (by dsimp only; omega)
            have HY := Lib.hid hyes; clear hyes
            go_wp2
            go_roundw
            case rel => exact ⟨j + 1, y, by omega, by go_num, rfl, by show _ = _; rw [HST.out, HY.out]; rfl, hbq.alloc (by omega) _⟩
            case measure => simp [intOf]; omega
          · have hx : okM n (-1) ms = true := by rw [← HO.out, List.drop_eq_nil_of_le (by rw [← HM.out]; omega)]; rfl
            have HX := Lib.hid hx; clear hx
            by_cases hr : s.1 < -1
            · go_wp2
              go_ret
              exact ⟨ret_eq (by rw [okA_rule Hl.out HS.out hr]; rfl), hbn⟩
            · have hok : okS n s = true := by unfold okS; rw [← HMS.out, HX.out, decide_eq_true (by omega)]; rfl
              have HK := Lib.hid hok; clear hok
              go_wp2
              go_roundw
              case rel => exact ⟨k + 1, by omega, by go_num, take_all HT.out HS.out HK.out, hbr.trans hbq⟩
              case measure => simp [intOf]; omega
      · have hx : okA l = true := okA_all Hl.out h500 (by have hh := HT.out; rwa [show k = n from by omega] at hh)
        have HX := Lib.hid hx; clear hx
        go_wp2
        go_ret
        exact ⟨ret_eq (by rw [HX.out]; rfl), hbw⟩
end Go.Proofs.YthikgdogfkjioaaGreatDoor
