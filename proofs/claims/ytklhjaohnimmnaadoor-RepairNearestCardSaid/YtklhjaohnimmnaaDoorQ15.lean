/- Plain: the mender's rows step by step. No program here. · A region that draws its order: operations ahead that touch no memory and that nobody may wait for, then still ones, then a tail in one order (a call that makes memory, an address, a store). -/
import Derived.Test.YtklhjaohnimmnaaDoorQ7
import Derived.StillTailTactics
import Derived.BigQuiet
import Derived.Test.YtklhjaohnimmnaaDoorQ11
namespace Go.Proofs.YtklhjaohnimmnaaDoor
set_option linter.unusedVariables false
set_option linter.unusedSimpArgs false

section
variable (put leave : Int → Int) (M : BCh) (inp : List Int) (f : Nat)
/-- The first m of the ways to part. -/
def midF (at_ : Nat → Bs) (s : Int) (k m : Nat) : Bs := ((List.range m).map fun mid => joinB (at_ mid) (symB put leave M inp s (f + mid) (f + k))).foldl pick none
/-- Behind i more symbols. -/
def rowA (right : List Int) (i : Nat) : Nat → Bs := rowF put leave M inp f ((right.drop 1).take i) (fun k => symB put leave M inp (nth right 0) f (f + k))
variable {put leave M inp f}
theorem midF_zero (at_ : Nat → Bs) (s : Int) (k : Nat) : midF put leave M inp f at_ s k 0 = none := rfl
theorem midF_succ (at_ : Nat → Bs) (s : Int) (k m : Nat) : midF put leave M inp f at_ s k (m + 1) = pick (midF put leave M inp f at_ s k m) (joinB (at_ m) (symB put leave M inp s (f + m) (f + k))) := by
  unfold midF
  rw [List.range_succ, List.map_append, List.foldl_append]
  rfl
theorem mid_all (at_ : Nat → Bs) (s : Int) (k : Nat) : midB' put leave M inp f at_ s k = midF put leave M inp f at_ s k (k + 1) := rfl
theorem rowF_app : ∀ (a b : List Int) (at_ : Nat → Bs), rowF put leave M inp f (a ++ b) at_ = rowF put leave M inp f b (rowF put leave M inp f a at_)
  | [], b, at_ => rfl
  | s :: a, b, at_ => by rw [List.cons_append, rowF, rowF, rowF_app a b]
theorem rowA_zero (right : List Int) : rowA put leave M inp f right 0 = fun k => symB put leave M inp (nth right 0) f (f + k) := by
  unfold rowA
  rw [List.take_zero]
  rfl
theorem rowA_succ {right : List Int} {i : Nat} (h : i + 1 < right.length) : rowA put leave M inp f right (i + 1) = midB' put leave M inp f (rowA put leave M inp f right i) (nth right (i + 1)) := by
  unfold rowA
  have e : (right.drop 1)[i]? = some (nth right (i + 1)) := by
    rw [List.getElem?_drop, Nat.add_comm 1 i, nth_some h]
  rw [List.take_add_one, e, rowF_app]
  rfl
theorem rowB_A {right : List Int} {t : Nat} (h : 0 < right.length) : rwB put leave M inp right f t = rowA put leave M inp f right (right.length - 1) (t - f) := by
  cases right with
  | nil => simp at h
  | cons s r =>
    unfold rowA rwB
    simp [nth]
end

/-- All that is reckoned of it is a best such as they are. -/
def GoodB (b : Bs) : Prop := NumB wB b ∧ WfB b
section
variable {put leave : Int → Int} {M : BCh} {inp : List Int} {ps : List Pr} {N : Nat}
theorem sym_good (hp : ∀ t, 0 ≤ put t) (hl : ∀ t, 0 ≤ leave t) (hb : ∀ t f u, lvS leave (sub inp f u) + put t ≤ farC) (hM : ChSnd put leave ps N inp M) (hd : ∀ X s, Der ps X s → DigB s) {s : Int} {f t : Nat} (hs : s < 0 → (-1 - s).toNat < N) (hs2 : s < 301) (h1 : f ≤ t) (h2 : t ≤ inp.length) : GoodB (symB put leave M inp s f t) := by
  have h := sym_snd hp hl hb hM hs h1 h2
  refine ⟨h.num fun l hl => ?_, h.wf⟩
  unfold SyR at hl
  split at hl
  · exact hd _ _ hl
  · subst hl
    intro x hx
    simp at hx
    omega
theorem row_good_aux (hp : ∀ t, 0 ≤ put t) (hl : ∀ t, 0 ≤ leave t) (hb : ∀ t f u, lvS leave (sub inp f u) + put t ≤ farC) (hM : ChSnd put leave ps N inp M) (hd : ∀ X s, Der ps X s → DigB s) {f T : Nat} (hT : f + T ≤ inp.length) : ∀ (r : List Int) (R0 : List Int → Prop) (at_ : Nat → Bs), (∀ s ∈ r, (s < 0 → (-1 - s).toNat < N) ∧ s < 301) → (∀ l, R0 l → DigB l) → (∀ k, k ≤ T → Snd put leave R0 (sub inp f (f + k)) (at_ k)) →
    ∀ k, k ≤ T → GoodB (rowF put leave M inp f r at_ k)
  | [], R0, at_, _, h0, hat, k, hk => ⟨(hat k hk).num h0, (hat k hk).wf⟩
  | s :: r, R0, at_, hs, h0, hat, k, hk => by
    have h1 := mid_snd hp hl hb hM (hs s (by simp)).1 hT hat
    refine row_good_aux hp hl hb hM hd hT r _ _ (fun x hx => hs x (by simp [hx])) (fun l hl2 => ?_) h1 k hk
    obtain ⟨a, b, rfl, ha, hb2⟩ := hl2
    intro x hx
    rcases List.mem_append.1 hx with q | q
    · exact h0 a ha x q
    · unfold SyR at hb2
      split at hb2
      · exact hd _ _ hb2 x q
      · subst hb2
        simp at q
        have := (hs s (by simp)).2
        omega
theorem rowA_good (hp : ∀ t, 0 ≤ put t) (hl : ∀ t, 0 ≤ leave t) (hb : ∀ t f u, lvS leave (sub inp f u) + put t ≤ farC) (hM : ChSnd put leave ps N inp M) (hd : ∀ X s, Der ps X s → DigB s) {f T : Nat} (hT : f + T ≤ inp.length) {right : List Int} (h0 : 0 < right.length) (hs : ∀ s ∈ right, (s < 0 → (-1 - s).toNat < N) ∧ s < 301) (i k : Nat) (hk : k ≤ T) : GoodB (rowA put leave M inp f right i k) := by
  unfold rowA
  have hn : nth right 0 ∈ right := by rw [nth_get h0]; exact List.getElem_mem _
  refine row_good_aux hp hl hb hM hd hT _ (SyR (Der ps) (nth right 0)) _ (fun s hx => hs s (List.mem_of_mem_drop (List.mem_of_mem_take hx))) (fun l hl2 => ?_) (fun k hk => sym_snd hp hl hb hM (hs _ hn).1 (by omega) (by omega)) k hk
  unfold SyR at hl2
  split at hl2
  · exact hd _ _ hl2
  · subst hl2
    intro x hx
    simp at hx
    have := (hs _ hn).2
    omega
end
end Go.Proofs.YtklhjaohnimmnaaDoor
namespace Go.Proofs.YtklhjaohnimmnaaDoor
open Go
set_option linter.unusedVariables false
set_option linter.unusedSimpArgs false

section
variable {P : Program} {ops : Array Oper} {md : Region.Mode} {w : World}
/-- Each of the first n that is not marked in L0 is waited for by one behind it, up to n. -/
def sinkL (md : Region.Mode) (ops : Array Oper) (n : Nat) (L0 : Array Bool) : Bool :=
  (List.range n).all fun i => L0.getD i false || (List.range (n + 1)).any fun j => decide (i < j) && Region.waitsFor md ops j i
def Over (L0 listed : Array Bool) : Prop := ∀ j, L0.getD j false = true → listed.getD j false = true
theorem Over.set {L0 listed : Array Bool} (h : Over L0 listed) (i : Nat) : Over L0 (listed.setIfInBounds i true) := fun j hj => getD_set_true (h j hj)
theorem tailL {n : Nat} {L0 listed : Array Bool} (hs : sinkL md ops n L0 = true) (hc : Region.chainB md ops n = true) (hn : n < ops.size) (inv : HeadInv md ops n listed) (ho : Over L0 listed) :
    ∀ (d i : Nat), n - i ≤ d → i < n → listed.getD i true = false → ∀ t, n ≤ t → t ∉ Region.ready md ops listed
  | 0, i, hd, hi, _, _, _ => by omega
  | d + 1, i, hd, hi, hun, t, ht => fun hr => by
    obtain ⟨_, ot, hot, hall⟩ := mem_ready.1 hr
    have htl : t < ops.size := (Array.getElem?_eq_some_iff.1 hot).1
    have noEdge : ∀ (e : Edge), e ∈ ot.after → Region.binds md e = true → listed.getD e.on true = false → False := fun e he hb hl => by
      have := hall e he hb
      rw [getD_both hl] at this
      cases this
    rcases Nat.lt_or_ge n t with q | q
    · have h1 := List.all_eq_true.1 hc t (List.mem_range.2 htl)
      simp only [Bool.or_eq_true, decide_eq_true_eq] at h1
      rcases h1 with h1 | h1
      · omega
      · obtain ⟨o2, ho2, e, he, hb, hon⟩ := Region.waitsFor_spec h1
        rw [hot] at ho2
        cases ho2
        exact noEdge e he hb (by rw [hon]; exact inv.tail (t - 1) (by omega) (by omega))
    · obtain rfl : t = n := by omega
      have h1 := List.all_eq_true.1 hs i (List.mem_range.2 hi)
      rw [Bool.or_eq_true] at h1
      rcases h1 with h1 | h1
      · have := ho i h1
        rw [getD_both hun] at this
        cases this
      · obtain ⟨j, hj, hj2⟩ := List.any_eq_true.1 h1
        simp only [Bool.and_eq_true, decide_eq_true_eq] at hj2
        have hjt : j ≤ t := by have := List.mem_range.1 hj; omega
        obtain ⟨oj, hoj, e, he, hb, hon⟩ := Region.waitsFor_spec hj2.2
        by_cases hjn : j = t
        · subst hjn
          rw [hot] at hoj
          cases hoj
          exact noEdge e he hb (by rw [hon]; exact hun)
        · cases hl : listed.getD j false with
          | true =>
            have := inv.closed j oj hoj hl e he hb
            rw [hon, getD_both hun] at this
            cases this
          | false => exact tailL hs hc hn inv ho d j (by omega) (by omega) (getD_in (by rw [inv.size]; omega) hl) t ht hr

theorem firstL {n i : Nat} {oi : Oper} {v : Value} {L0 : Array Bool} {L : Array Bool → Act → Prop} (hi : ops[i]? = some oi) (hsel : ∀ (j : Nat) (o : Oper) cs b, ops[j]? = some o → o.op ≠ .select cs b)
    (hs : sinkL md ops n L0 = true) (hc : Region.chainB md ops n = true) (hn : n < ops.size) (hin : i < n)
    (hdone : ∀ listed a, L listed a → ∀ j ∈ Region.ready md ops listed, n ≤ j) :
    ∀ (f : Nat) (listed : Array Bool) (a : Act), HeadInv md ops n listed → Over L0 listed →
      (∀ j oj, ops[j]? = some oj → j ≠ i → listed.getD j true = false → (∀ e ∈ oj.after, Region.binds md e = true → e.on ≠ i) → oi.apart ops oj = true) →
      i ∈ Region.ready md ops listed → YieldsAt P ops w oi v a →
      wpAnyL P md ops w n L f (listed.setIfInBounds i true) (a.put oi.dst v) → wpAnyL P md ops w n L (f + 1) listed a := by
  intro f
  induction f with
  | zero =>
    intro listed a inv ho _ hr hy H
    have hun := (mem_ready.1 hr).1
    refine ⟨fun h => (by rw [h] at hr; cases hr), fun j hj => ?_⟩
    have hjn : j < n := Nat.lt_of_not_le fun q => tailL hs hc hn inv ho _ i (Nat.le_refl _) hin hun j q hj
    by_cases hji : j = i
    · subst hji; exact ⟨hjn, hy.stOp hi H⟩
    · have := hdone _ _ H j (ready_mono hj hji); omega
  | succ f ih =>
    intro listed a inv ho hfree hr hy H
    have hun := (mem_ready.1 hr).1
    refine ⟨fun h => (by rw [h] at hr; cases hr), fun j hj => ?_⟩
    have hjn : j < n := Nat.lt_of_not_le fun q => tailL hs hc hn inv ho _ i (Nat.le_refl _) hin hun j q hj
    by_cases hji : j = i
    · subst hji; exact ⟨hjn, hy.stOp hi H⟩
    · obtain ⟨hjun, oj, hoj, hall⟩ := mem_ready.1 hj
      have hno : ∀ e ∈ oj.after, Region.binds md e = true → e.on ≠ i := fun e he hb q => by
        have := hall e he hb
        rw [q, getD_both hun] at this
        cases this
      have h2 := stOp_put hoj (hfree j oj hoj hji hjun hno) (fun cs b => hsel i oi cs b hi) (fun cs b => hsel j oj cs b hoj) hy (H.2 j (ready_mono hj hji)).2
      refine ⟨hjn, stOp_mono (fun a' h3 => ih (listed.setIfInBounds j true) a' (inv.set hj hjn) (ho.set j) (fun k ok hk hki hku hkn => hfree k ok hk hki ?_ hkn) (ready_mono hr (Ne.symm hji)) h3.1 ?_) h2⟩
      · by_cases q : j = k
        · subst q; exact hjun
        · rw [getD_set_ne true q] at hku; exact hku
      · rw [Array.setIfInBounds_comm _ _ hji]; exact h3.2

theorem lexL {n g : Nat} {L0 : Array Bool} {Lq : Act → Prop} (hsel : Region.noSelect ops = true) (hs : sinkL md ops n L0 = true) (hc : Region.chainB md ops n = true) (hn : n < ops.size) :
    ∀ (l : List Oper) (k : Nat) (listed : Array Bool) (a : Act), (∀ j, j < l.length → l[j]? = ops[k + j]?) → k + l.length = n → HeadInv md ops n listed → Over L0 listed →
    Region.lexHead md ops g l.length k listed = true → wpStill P ops w Lq l a →
    wpAnyL P md ops w n (fun listed' a' => Region.seqB md ops g n listed' = true ∧ Lq a') l.length listed a
  | [], k, listed, a, _, hk, _, _, hB, h => by
    obtain rfl : k = n := by simpa using hk
    exact ⟨by simpa [Region.lexHead] using hB, h⟩
  | o :: l, k, listed, a, hl, hk, inv, ho, hB, h => by
    have h0 : ops[k]? = some o := by simpa using (hl 0 (by simp)).symm
    simp only [List.length_cons, Region.lexHead, Bool.and_eq_true] at hB
    obtain ⟨⟨hr, hf⟩, hB2⟩ := hB
    have hkn : k < n := by simp only [List.length_cons] at hk; omega
    have hr2 : k ∈ Region.ready md ops listed := by simpa using hr
    obtain ⟨v, hy, hK⟩ := yieldsAt_of_stOp h0 (show stOp P ops w k (wpStill P ops w Lq l) a by unfold stOp; simp only [h0]; exact h)
    exact firstL h0 (Region.noSelect_spec hsel) hs hc hn hkn (fun _ _ hL => seqB_ready hL.1) l.length listed a inv ho (Region.free_spec h0 hf) hr2 hy
      (lexL hsel hs hc hn l (k + 1) _ _ (fun j hj => by have := hl (j + 1) (by simp; omega); simpa [Nat.add_assoc, Nat.add_comm 1 j] using this) (by simp only [List.length_cons] at hk; omega) (inv.set hr2 hkn) (ho.set k) hB2 hK)

/-- The operations of a list in their order, each of which yields its value in whatever world. -/
def wpYld (P : Program) (ops : Array Oper) (K : Act → Prop) : List Oper → Act → Prop
  | [], a => K a
  | o :: l, a => ∃ v, Yields P ops o v a ∧ wpYld P ops K l (a.put o.dst v)
/-- They may come first; behind them stands 'listed'. -/
def yldB (md : Region.Mode) (ops : Array Oper) : Nat → Nat → Array Bool → Bool × Array Bool
  | 0, _, listed => (true, listed)
  | f + 1, k, listed => let r := yldB md ops f (k + 1) (listed.setIfInBounds k true); ((Region.ready md ops listed).contains k && Region.free md ops listed k && r.1, r.2)
theorem wpAny_yld {Q : Exit → Act → World → Prop} (hsel : Region.noSelect ops = true) (hQ : ∀ c a d v w, Q (.panic c) (a.put d v) w → Q (.panic c) a w) {g : Nat} {K : Act → Prop} :
    ∀ (l : List Oper) (k : Nat) (listed : Array Bool) (a : Act), (∀ j, j < l.length → l[j]? = ops[k + j]?) → (yldB md ops l.length k listed).1 = true →
    (∀ a', K a' → wpAny P md ops Q g (yldB md ops l.length k listed).2 a' w) → wpYld P ops K l a → wpAny P md ops Q (g + l.length) listed a w
  | [], k, listed, a, _, _, hK, h => hK a h
  | o :: l, k, listed, a, hl, hB, hK, h => by
    have h0 : ops[k]? = some o := by simpa using (hl 0 (by simp)).symm
    simp only [List.length_cons, yldB, Bool.and_eq_true] at hB hK
    obtain ⟨⟨hr, hf⟩, hB2⟩ := hB
    obtain ⟨v, hy, h2⟩ := h
    exact wpAny_take h0 hsel hf hr (fun c a w q => hQ c a _ _ w q) hy
      (wpAny_yld hsel hQ l (k + 1) _ _ (fun j hj => by have := hl (j + 1) (by simp; omega); simpa [Nat.add_assoc, Nat.add_comm 1 j] using this) hB2 hK h2)
/-- What is to be checked of the region: m ahead that touch no memory, still ones up to n, a tail in one order. -/
def stragB (md : Region.Mode) (ops : Array Oper) (m n : Nat) : Bool :=
  let r := yldB md ops m 0 (Array.replicate ops.size false)
  Region.noSelect ops && decide (n < ops.size) && decide (m ≤ n) && r.1 && sinkL md ops n r.2 && Region.chainB md ops n && Region.lexHead md ops (ops.size - n) (n - m) m r.2
theorem yldB_head {n : Nat} : ∀ (f k : Nat) (listed : Array Bool), k + f ≤ n → HeadInv md ops n listed → (yldB md ops f k listed).1 = true → HeadInv md ops n (yldB md ops f k listed).2
  | 0, k, listed, _, inv, _ => inv
  | f + 1, k, listed, h, inv, hB => by
    simp only [yldB, Bool.and_eq_true] at hB ⊢
    exact yldB_head f (k + 1) _ (by omega) (inv.set (by simpa using hB.1.1) (by omega)) hB.2
theorem wp_region_strag {id : Nat} {Q : Exit → Act → World → Prop} {a : Act} {w : World} {l : List Oper} (m n : Nat) (hm : P.follows .mixedOrders = true) (hB : stragB .any l.toArray m n = true)
    (hQ : ∀ c a d v w, Q (.panic c) (a.put d v) w → Q (.panic c) a w)
    (h : wpYld P l.toArray (fun a' => wpStill P l.toArray w.drew (fun a'' => wpList P l.toArray Q (l.drop n) a'' w.drew) ((l.drop m).take (n - m)) a') (l.take m) a) : (Code.region id l.toArray true).wp P Q a w := by
  simp only [stragB, Bool.and_eq_true, decide_eq_true_eq] at hB
  obtain ⟨⟨⟨⟨⟨⟨hsel, hn⟩, hmn⟩, hy⟩, hs⟩, hc⟩, hlex⟩ := hB
  have hn2 : n < l.length := by simpa using hn
  have hlm : (l.take m).length = m := by simp; omega
  have hlh : ((l.drop m).take (n - m)).length = n - m := by simp; omega
  have hld : (l.drop n).length = l.toArray.size - n := by simp
  have inv0 : HeadInv .any l.toArray n (Array.replicate l.toArray.size false) :=
    ⟨by simp, fun j oj _ q => (by rw [getD_replicate_false] at q; cases q), fun t _ ht => getD_in (by simpa using ht) (getD_replicate_false _ _)⟩
  have inv1 := yldB_head m 0 _ (by omega) inv0 hy
  refine wp_region_any hm ?_
  have key := wpAny_yld (md := .any) (Q := Q) (w := w.drew) (g := n - m + (l.toArray.size - n)) hsel hQ (l.take m) 0 (Array.replicate l.toArray.size false) a
    (fun j hj => by rw [hlm] at hj; simp [hj]) (by rw [hlm]; exact hy) (fun a' ha' => by
      rw [hlm]
      have H := lexL (md := .any) (g := l.toArray.size - n) hsel hs hc hn ((l.drop m).take (n - m)) m _ a' (fun j hj => by
        rw [hlh] at hj
        simp [hj]) (by rw [hlh]; omega) inv1 (fun _ q => q) (by rw [hlh]; exact hlex) ha'
      have := wpAny_of_head (Q' := Q) (g := l.toArray.size - n) (fun listed a' hL => by
        have := wpAny_of_seq (md := .any) (Q' := Q) (l.drop n) n listed a' w.drew (fun j => by simp [List.getElem?_drop]) (by rw [hld]; exact hL.1) hL.2
        rwa [hld] at this) _ _ _ H
      rwa [hlh] at this) h
  rw [hlm, show n - m + (l.toArray.size - n) + m = l.toArray.size by omega] at key
  exact key
/-- Unguarded copies of slots. -/
def movesB (l : List Oper) : Bool := l.all fun o => (match o.op with | .move _ => true | _ => false) && o.guard.isNone
theorem wpYld_of_quiet {K : Act → Prop} (l2 : List Oper) : ∀ (l : List Oper) (a : Act), movesB l = true → wpQuiet P ops (fun w' => w' = w) K (l ++ l2) a → wpYld P ops (fun a' => wpStill P ops w K l2 a') l a
  | [], a, _, h => wpStill_of_quiet _ _ h
  | o :: l, a, hB, h => by
    simp only [movesB, List.all_cons, Bool.and_eq_true] at hB
    obtain ⟨⟨hmv, hg⟩, hB2⟩ := hB
    have hw : Region.wanted o (yielded ops a.tmps) = true := by
      unfold Region.wanted
      cases hgg : o.guard with
      | none => rfl
      | some x => rw [hgg] at hg; cases hg
    have ho : ∃ x, o.op = .move x := by
      revert hmv
      cases o.op <;> simp
    obtain ⟨x, hx⟩ := ho
    rw [List.cons_append] at h
    unfold wpQuiet at h
    rw [if_pos hw] at h
    obtain ⟨v, h1, h2⟩ := h
    have h3 := h1 w rfl
    unfold Oper.quietAt at h3
    have hr : ∀ w, (execOp a.eval o).run P w = .ok (.value (a.eval x)) w := fun w => BigFrame.run_move x hx w
    rw [hr] at h3
    obtain ⟨_, h4⟩ := h3
    exact ⟨v, .inl ⟨hw, fun w => by rw [hr]; rw [h4]⟩, wpYld_of_quiet l2 l _ hB2 h2⟩
theorem wp_region_moves {id : Nat} {Q : Exit → Act → World → Prop} {a : Act} {w : World} {l : List Oper} (m n : Nat) (hm : P.follows .mixedOrders = true) (hB : stragB .any l.toArray m n = true) (hV : movesB (l.take m) = true)
    (hQ : ∀ c a d v w, Q (.panic c) (a.put d v) w → Q (.panic c) a w)
    (h : wpQuiet P l.toArray (fun w' => w' = w.drew) (fun a'' => wpList P l.toArray Q (l.drop n) a'' w.drew) (l.take n) a) : (Code.region id l.toArray true).wp P Q a w := by
  have hB2 := hB
  simp only [stragB, Bool.and_eq_true, decide_eq_true_eq] at hB2
  obtain ⟨⟨⟨⟨⟨⟨_, _⟩, hmn⟩, _⟩, _⟩, _⟩, _⟩ := hB2
  refine wp_region_strag m n hm hB hQ (wpYld_of_quiet _ _ _ hV ?_)
  have e : l.take m ++ (l.drop m).take (n - m) = l.take n := by
    rw [← List.drop_take]
    have : l.take m = (l.take n).take m := by rw [List.take_take, Nat.min_eq_left hmn]
    rw [this, List.take_append_drop]
  rw [e]; exact h
end
end Go.Proofs.YtklhjaohnimmnaaDoor
