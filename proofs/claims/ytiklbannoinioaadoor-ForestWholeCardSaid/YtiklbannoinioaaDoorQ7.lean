/- A region that draws its order: copies ahead that nobody may wait for; reads; one operation that makes memory and leaves alone what is read; a tail in one order. · A region that draws its order, walked by steps: what only answers a value is taken in the order of the text; of what makes or writes memory each that may come. · Memory of a chart under way: a place's set of items, the items still to do; put. -/
import Derived.Test.YtiklbannoinioaaDoorQ6
import Derived.OrdersHeld
import Derived.Test.YtiklbannoinioaaDoorQ3
import Derived.ArgAppend
import Derived.Deep.DeepAppendRoom
namespace Go.Proofs.YtiklbannoinioaaDoor
open Go
set_option linter.unusedVariables false
set_option linter.unusedSimpArgs false

section
variable {P : Program} {ops : Array Oper} {md : Region.Mode} {Q : Exit → Act → World → Prop} {S : World → Prop}
/-- Operations that answer a value, and no call. -/
def readB (o : Oper) : Bool :=
  match o.op with
  | .move _ | .assign _ | .pick .. | .binOp .. | .unOp .. | .convert .. | .fieldAddr .. | .field .. | .indexAddr .. | .index .. | .load .. | .lookup .. | .extract .. | .nilCheck _ | .build .. | .slice .. | .makeInterface .. => true
  | .call c => match c.callee with | .builtin .len | .builtin .cap | .builtin .min | .builtin .max => true | _ => false
  | _ => false
theorem map_value {s : Sem Value} {w : World} {n : Next} {w' : World} (h : (do pure (Next.value (← s)) : Sem Next).run P w = .ok n w') : ∃ v, n = .value v := by
  simp only [Sem.run_bind] at h
  generalize s.run P w = r at h
  cases r with
  | ok v w2 => simp [Result.andThen] at h; exact ⟨v, h.1.symm⟩
  | halt x w2 => simp [Result.andThen] at h
theorem seq_value {α : Type} {s : Sem α} {f : α → Sem Next} {w : World} {n : Next} {w' : World} (hf : ∀ a w n w', (f a).run P w = .ok n w' → ∃ v, n = .value v) (h : (s >>= f).run P w = .ok n w') : ∃ v, n = .value v := by
  simp only [Sem.run_bind] at h
  generalize s.run P w = r at h
  cases r with
  | ok a w2 => exact hf a w2 n w' h
  | halt x w2 => simp [Result.andThen] at h
theorem read_value {o : Oper} (h : readB o = true) {ρ : Operand → Value} {w w' : World} {n : Next} (hr : (execOp ρ o).run P w = .ok n w') : ∃ v, n = .value v := by
  unfold execOp at hr
  unfold readB at h
  generalize o.op = op at h hr
  cases op <;> (try simp only [reduceCtorEq] at h) <;> first | exact map_value hr | skip
  case move x => exact ⟨_, by simp at hr; exact hr.1.symm⟩
  case assign x => exact ⟨_, by simp at hr; exact hr.1.symm⟩
  case call c =>
    obtain ⟨callee, args, ats⟩ := c
    cases callee with
    | builtin b =>
      cases b <;> simp only [reduceCtorEq, Bool.false_eq_true] at h <;> (simp only [resolve, Sem.run_bind, Sem.run_pure, Result.andThen, invoke, builtin] at hr; exact map_value (by simpa [Sem.run_bind, Result.andThen] using hr))
    | invoke r n => simp at h
    | value f => simp at h
  case pick c a b =>
    simp only [Sem.run_bind] at hr
    generalize (asBool (ρ c)).run P w = r at hr
    cases r with
    | ok v w2 => simp [Result.andThen] at hr; exact ⟨_, hr.1.symm⟩
    | halt x w2 => simp [Result.andThen] at hr
  case nilCheck x =>
    simp only at hr
    split at hr
    · simp [runtimePanic] at hr
    · simp [runtimePanic] at hr
    · simp [runtimePanic] at hr
    · split at hr
      · simp [runtimePanic] at hr
      · refine seq_value (fun a w n w' hr => ?_) hr
        refine seq_value (fun a w n w' hr => ?_) hr
        split at hr
        · refine seq_value (fun a w n w' hr => ?_) hr
          simp at hr; exact ⟨_, hr.1.symm⟩
        · simp at hr; exact ⟨_, hr.1.symm⟩
      · simp at hr; exact ⟨_, hr.1.symm⟩
    · simp at hr; exact ⟨_, hr.1.symm⟩
/-- As long as an operation ahead is left, whatever comes up leaves S. -/
def wpAnyM (P : Program) (md : Region.Mode) (ops : Array Oper) (Q : Exit → Act → World → Prop) (S : World → Prop) (n : Nat) (L : Array Bool → Act → World → Prop) : Nat → Array Bool → Act → World → Prop
  | 0, listed, a, w => L listed a w
  | f + 1, listed, a, w => Region.ready md ops listed ≠ [] ∧ ∀ i ∈ Region.ready md ops listed, i < n ∧ wpOp P ops Q i (fun a' w' => S w' ∧ wpAnyM P md ops Q S n L f (listed.setIfInBounds i true) a' w') a w
theorem wpAny_of_M {n g : Nat} {L : Array Bool → Act → World → Prop} (hL : ∀ listed a w, L listed a w → wpAny P md ops Q g listed a w) :
    ∀ (f : Nat) (listed : Array Bool) (a : Act) (w : World), wpAnyM P md ops Q S n L f listed a w → wpAny P md ops Q (f + g) listed a w
  | 0, listed, a, w, h => by rw [Nat.zero_add]; exact hL _ _ _ h
  | f + 1, listed, a, w, h => by
    rw [show f + 1 + g = (f + g) + 1 by omega]
    exact ⟨fun h0 => absurd h0 h.1, fun i hi => wpOp_mono (fun a' w' h' => wpAny_of_M hL f _ a' w' h'.2) (h.2 i hi).2⟩
theorem firstM {n i : Nat} {oi : Oper} {v : Value} {L0 : Array Bool} {L : Array Bool → Act → World → Prop} (hi : ops[i]? = some oi) (hsel : ∀ (j : Nat) (o : Oper) cs b, ops[j]? = some o → o.op ≠ .select cs b)
    (hQ : ∀ c a d v w, Q (.panic c) (a.put d v) w → Q (.panic c) a w)
    (hs : sinkL md ops n L0 = true) (hc : Region.chainB md ops n = true) (hn : n < ops.size) (hin : i < n)
    (hdone : ∀ listed a w, L listed a w → ∀ j ∈ Region.ready md ops listed, n ≤ j) :
    ∀ (f : Nat) (listed : Array Bool) (a : Act) (w : World), HeadInv md ops n listed → Over L0 listed →
      (∀ j oj, ops[j]? = some oj → j ≠ i → listed.getD j true = false → (∀ e ∈ oj.after, Region.binds md e = true → e.on ≠ i) → oi.apart ops oj = true) →
      i ∈ Region.ready md ops listed → YieldsIf P ops S oi v a → S w →
      wpAnyM P md ops Q S n L f (listed.setIfInBounds i true) (a.put oi.dst v) w → wpAnyM P md ops Q S n L (f + 1) listed a w := by
  intro f
  induction f with
  | zero =>
    intro listed a w inv ho _ hr hy hS H
    have hun := (mem_ready.1 hr).1
    refine ⟨fun h => (by rw [h] at hr; cases hr), fun j hj => ?_⟩
    have hjn : j < n := Nat.lt_of_not_le fun q => tailL hs hc hn inv ho _ i (Nat.le_refl _) hin hun j q hj
    by_cases hji : j = i
    · subst hji; exact ⟨hjn, hy.wpOp hi hS ⟨hS, H⟩⟩
    · have := hdone _ _ _ H j (ready_mono hj hji); omega
  | succ f ih =>
    intro listed a w inv ho hfree hr hy hS H
    have hun := (mem_ready.1 hr).1
    refine ⟨fun h => (by rw [h] at hr; cases hr), fun j hj => ?_⟩
    have hjn : j < n := Nat.lt_of_not_le fun q => tailL hs hc hn inv ho _ i (Nat.le_refl _) hin hun j q hj
    by_cases hji : j = i
    · subst hji; exact ⟨hjn, hy.wpOp hi hS ⟨hS, H⟩⟩
    · obtain ⟨hjun, oj, hoj, hall⟩ := mem_ready.1 hj
      have hno : ∀ e ∈ oj.after, Region.binds md e = true → e.on ≠ i := fun e he hb q => by
        have := hall e he hb
        rw [q, getD_both hun] at this
        cases this
      have h2 := wpOp_putIf hoj (hfree j oj hoj hji hjun hno) (fun cs b => hsel i oi cs b hi) (fun cs b => hsel j oj cs b hoj) (fun c a w q => hQ c a _ _ w q) hy (H.2 j (ready_mono hj hji)).2
      refine ⟨hjn, wpOp_mono (fun a' w' h3 => ⟨h3.2.1, ih (listed.setIfInBounds j true) a' w' (inv.set hj hjn) (ho.set j) (fun k ok hk hki hku hkn => hfree k ok hk hki ?_ hkn) (ready_mono hr (Ne.symm hji)) h3.1 h3.2.1 ?_⟩) h2⟩
      · by_cases q : j = k
        · subst q; exact hjun
        · rw [getD_set_ne true q] at hku; exact hku
      · rw [Array.setIfInBounds_comm _ _ hji]; exact h3.2.2
def lexM (md : Region.Mode) (ops : Array Oper) (g : Nat) : Nat → Nat → Array Bool → Bool
  | 0, k, listed => decide (Region.ready md ops listed = [k]) && Region.seqB md ops g (k + 1) (listed.setIfInBounds k true)
  | f + 1, k, listed => (Region.ready md ops listed).contains k && Region.free md ops listed k && lexM md ops g f (k + 1) (listed.setIfInBounds k true)
theorem yieldsIf_of_quiet {o : Oper} {a : Act} {v : Value} (hr : readB o = true) (hw : Region.wanted o (yielded ops a.tmps) = true) (h : ∀ w, S w → o.quietAt P a S w v) : YieldsIf P ops S o v a :=
  .inl ⟨hw, fun w hS => by
    have h1 := h w hS
    unfold Oper.quietAt at h1
    generalize hx : (execOp a.eval o).run P w = r at h1
    cases r with
    | halt x w' => exact h1.elim
    | ok n w' =>
      obtain ⟨u, rfl⟩ := read_value hr hx
      obtain ⟨rfl, rfl⟩ := h1
      rfl⟩
theorem headM {n g : Nat} {L0 : Array Bool} {K : Act → Prop} {T : Act → World → Prop} {w : World} (hsel : Region.noSelect ops = true) (hQ : ∀ c a d v w, Q (.panic c) (a.put d v) w → Q (.panic c) a w)
    (hs : sinkL md ops (n + 1) L0 = true) (hc : Region.chainB md ops (n + 1) = true) (hn : n + 1 < ops.size) (hS : S w) (hK : ∀ a, K a → wpOp P ops Q n (fun a' w' => S w' ∧ T a' w') a w) :
    ∀ (l : List Oper) (k : Nat) (listed : Array Bool) (a : Act), (∀ j, j < l.length → l[j]? = ops[k + j]?) → k + l.length = n → HeadInv md ops (n + 1) listed → Over L0 listed →
    lexM md ops g l.length k listed = true → l.all readB = true → wpQuiet P ops S K l a →
    wpAnyM P md ops Q S (n + 1) (fun listed' a' w' => Region.seqB md ops g (n + 1) listed' = true ∧ T a' w') (l.length + 1) listed a w
  | [], k, listed, a, _, hk, _, _, hB, _, h => by
    obtain rfl : k = n := by simpa using hk
    simp only [List.length_nil, lexM, Bool.and_eq_true, decide_eq_true_eq] at hB
    refine ⟨fun h0 => (by rw [hB.1] at h0; cases h0), fun i hi => ?_⟩
    rw [hB.1, List.mem_singleton] at hi
    subst hi
    exact ⟨Nat.lt_succ_self _, wpOp_mono (fun a' w' h2 => ⟨h2.1, hB.2, h2.2⟩) (hK a h)⟩
  | o :: l, k, listed, a, hl, hk, inv, ho, hB, hR, h => by
    have h0 : ops[k]? = some o := by simpa using (hl 0 (by simp)).symm
    simp only [List.length_cons, lexM, Bool.and_eq_true] at hB
    simp only [List.all_cons, Bool.and_eq_true] at hR
    obtain ⟨⟨hr, hf⟩, hB2⟩ := hB
    have hkn : k < n + 1 := by simp only [List.length_cons] at hk; omega
    have hr2 : k ∈ Region.ready md ops listed := by simpa using hr
    have key : ∀ (v : Value), YieldsIf P ops S o v a → wpQuiet P ops S K l (a.put o.dst v) → wpAnyM P md ops Q S (n + 1) (fun listed' a' w' => Region.seqB md ops g (n + 1) listed' = true ∧ T a' w') (l.length + 1 + 1) listed a w := fun v hy h2 =>
      firstM h0 (Region.noSelect_spec hsel) hQ hs hc hn hkn (fun _ _ _ hL => seqB_ready hL.1) (l.length + 1) listed a w inv ho (Region.free_spec h0 hf) hr2 hy hS
        (headM hsel hQ hs hc hn hS hK l (k + 1) _ _ (fun j hj => by have := hl (j + 1) (by simp; omega); simpa [Nat.add_assoc, Nat.add_comm 1 j] using this) (by simp only [List.length_cons] at hk; omega) (inv.set hr2 hkn) (ho.set k) hB2 hR.2 h2)
    unfold wpQuiet at h
    split at h
    · rename_i hw
      obtain ⟨v, h1, h2⟩ := h
      exact key v (yieldsIf_of_quiet hR.1 hw h1) h2
    · rename_i hw
      exact key undef (.inr ⟨by simpa using hw, rfl⟩) h
theorem yld_of_quiet {K : Act → Prop} {w : World} (hS : S w) (l2 : List Oper) : ∀ (l : List Oper) (a : Act), movesB l = true → wpQuiet P ops S K (l ++ l2) a → wpYld P ops (fun a' => wpQuiet P ops S K l2 a') l a
  | [], a, _, h => h
  | o :: l, a, hB, h => by
    simp only [movesB, List.all_cons, Bool.and_eq_true] at hB
    obtain ⟨⟨hmv, hg⟩, hB2⟩ := hB
    have hw : Region.wanted o (yielded ops a.tmps) = true := by
      unfold Region.wanted
      cases hgg : o.guard with
      | none => rfl
      | some x => rw [hgg] at hg; cases hg
    have ho : ∃ x, o.op = .move x := by
      revert hmv
      cases o.op <;> simp
    obtain ⟨x, hx⟩ := ho
    rw [List.cons_append] at h
    unfold wpQuiet at h
    rw [if_pos hw] at h
    obtain ⟨v, h1, h2⟩ := h
    have h3 := h1 w hS
    unfold Oper.quietAt at h3
    have hr : ∀ w, (execOp a.eval o).run P w = .ok (.value (a.eval x)) w := fun w => BigFrame.run_move x hx w
    rw [hr] at h3
    obtain ⟨_, h4⟩ := h3
    exact ⟨v, .inl ⟨hw, fun w => by rw [hr]; rw [h4]⟩, yld_of_quiet hS l2 l _ hB2 h2⟩
/-- What is to be checked: m copies ahead, reads up to n, the operation n, the tail. -/
def keepB (md : Region.Mode) (ops : Array Oper) (m n : Nat) : Bool :=
  let r := yldB md ops m 0 (Array.replicate ops.size false)
  Region.noSelect ops && decide (n + 1 < ops.size) && decide (m ≤ n) && r.1 && sinkL md ops (n + 1) r.2 && Region.chainB md ops (n + 1) && lexM md ops (ops.size - (n + 1)) (n - m) m r.2
theorem wp_region_keep {id : Nat} {a : Act} {w : World} {l : List Oper} (S : World → Prop) (m n : Nat) (hm : P.follows .mixedOrders = true) (hB : keepB .any l.toArray m n = true) (hV : movesB (l.take m) = true) (hR : ((l.drop m).take (n - m)).all readB = true)
    (hQ : ∀ c a d v w, Q (.panic c) (a.put d v) w → Q (.panic c) a w) (hS : S w.drew)
    (h : wpQuiet P l.toArray S (fun a'' => wpList P l.toArray (Exit.then (fun a' w' => S w' ∧ wpList P l.toArray Q (l.drop (n + 1)) a' w') Q) ((l.drop n).take 1) a'' w.drew) (l.take n) a) : (Code.region id l.toArray true).wp P Q a w := by
  simp only [keepB, Bool.and_eq_true, decide_eq_true_eq] at hB
  obtain ⟨⟨⟨⟨⟨⟨hsel, hn⟩, hmn⟩, hy⟩, hs⟩, hc⟩, hlex⟩ := hB
  have hn2 : n + 1 < l.length := by simpa using hn
  have hlm : (l.take m).length = m := by simp; omega
  have hlh : ((l.drop m).take (n - m)).length = n - m := by simp; omega
  have hld : (l.drop (n + 1)).length = l.toArray.size - (n + 1) := by simp
  have inv0 : HeadInv .any l.toArray (n + 1) (Array.replicate l.toArray.size false) :=
    ⟨by simp, fun j oj _ q => (by rw [getD_replicate_false] at q; cases q), fun t _ ht => getD_in (by simpa using ht) (getD_replicate_false _ _)⟩
  have inv1 := yldB_head m 0 _ (by omega) inv0 hy
  have e : l.take m ++ (l.drop m).take (n - m) = l.take n := by
    rw [← List.drop_take]
    have : l.take m = (l.take n).take m := by rw [List.take_take, Nat.min_eq_left hmn]
    rw [this, List.take_append_drop]
  rw [← e] at h
  have hop : l.toArray[n]? = some (l[n]'(by omega)) := by simp
  have h1 : (l.drop n).take 1 = [l[n]'(by omega)] := by rw [List.drop_eq_getElem_cons (by omega)]; rfl
  refine wp_region_any hm ?_
  have key := wpAny_yld (md := .any) (Q := Q) (w := w.drew) (g := n - m + 1 + (l.toArray.size - (n + 1))) hsel hQ (l.take m) 0 (Array.replicate l.toArray.size false) a
    (fun j hj => by rw [hlm] at hj; simp [hj]) (by rw [hlm]; exact hy) (fun a' ha' => by
      rw [hlm]
      have H := headM (md := .any) (g := l.toArray.size - (n + 1)) (n := n) (T := fun a' w' => wpList P l.toArray Q (l.drop (n + 1)) a' w') hsel hQ hs hc hn hS
        (fun a ha => wpOp_of_list hop (by rw [← h1]; exact ha)) ((l.drop m).take (n - m)) m _ a' (fun j hj => by
          rw [hlh] at hj
          simp [hj]) (by rw [hlh]; omega) inv1 (fun _ q => q) (by rw [hlh]; exact hlex) hR ha'
      have := wpAny_of_M (g := l.toArray.size - (n + 1)) (fun listed a' w' hL => by
        have := wpAny_of_seq (md := .any) (Q' := Q) (l.drop (n + 1)) (n + 1) listed a' w' (fun j => by simp [List.getElem?_drop]) (by rw [hld]; exact hL.1) hL.2
        rwa [hld] at this) _ _ _ _ H
      rwa [hlh] at this) (yld_of_quiet hS _ _ _ hV h)
  rw [hlm, show n - m + 1 + (l.toArray.size - (n + 1)) + m = l.toArray.size by omega] at key
  exact key
end
end Go.Proofs.YtiklbannoinioaaDoor
namespace Go.Proofs.YtiklbannoinioaaDoor
open Go
set_option linter.unusedVariables false
set_option linter.unusedSimpArgs false

section
variable {P : Program} {ops : Array Oper} {md : Region.Mode} {Q : Exit → Act → World → Prop} {S : World → Prop}
/-- Whatever comes up leaves S. -/
def wpAnyS (P : Program) (md : Region.Mode) (ops : Array Oper) (Q : Exit → Act → World → Prop) (S : World → Prop) : Nat → Array Bool → Act → World → Prop
  | 0, listed, a, w => Region.ready md ops listed = [] ∧ Q .normal a w
  | f + 1, listed, a, w => Region.ready md ops listed ≠ [] ∧ ∀ i ∈ Region.ready md ops listed, wpOp P ops Q i (fun a' w' => S w' ∧ wpAnyS P md ops Q S f (listed.setIfInBounds i true) a' w') a w
theorem wpAny_of_S : ∀ (f : Nat) (listed : Array Bool) (a : Act) (w : World), wpAnyS P md ops Q S f listed a w → wpAny P md ops Q f listed a w
  | 0, listed, a, w, h => h
  | f + 1, listed, a, w, h => ⟨fun h0 => absurd h0 h.1, fun i hi => wpOp_mono (fun a' w' h' => wpAny_of_S f _ a' w' h'.2) (h.2 i hi)⟩
theorem firstS {i : Nat} {oi : Oper} {v : Value} (hi : ops[i]? = some oi) (hsel : ∀ (j : Nat) (o : Oper) cs b, ops[j]? = some o → o.op ≠ .select cs b)
    (hQ : ∀ c a d v w, Q (.panic c) (a.put d v) w → Q (.panic c) a w) :
    ∀ (f : Nat) (listed : Array Bool) (a : Act) (w : World),
      (∀ j oj, ops[j]? = some oj → j ≠ i → listed.getD j true = false → (∀ e ∈ oj.after, Region.binds md e = true → e.on ≠ i) → oi.apart ops oj = true) →
      i ∈ Region.ready md ops listed → YieldsIf P ops S oi v a → S w →
      wpAnyS P md ops Q S f (listed.setIfInBounds i true) (a.put oi.dst v) w → wpAnyS P md ops Q S (f + 1) listed a w := by
  intro f
  induction f with
  | zero =>
    intro listed a w _ hr hy hS H
    refine ⟨fun h => (by rw [h] at hr; cases hr), fun j hj => ?_⟩
    by_cases hji : j = i
    · subst hji; exact hy.wpOp hi hS ⟨hS, H⟩
    · have := ready_mono hj hji
      rw [H.1] at this
      cases this
  | succ f ih =>
    intro listed a w hfree hr hy hS H
    have hun := (mem_ready.1 hr).1
    refine ⟨fun h => (by rw [h] at hr; cases hr), fun j hj => ?_⟩
    by_cases hji : j = i
    · subst hji; exact hy.wpOp hi hS ⟨hS, H⟩
    · obtain ⟨hjun, oj, hoj, hall⟩ := mem_ready.1 hj
      have hno : ∀ e ∈ oj.after, Region.binds md e = true → e.on ≠ i := fun e he hb q => by
        have := hall e he hb
        rw [q, getD_both hun] at this
        cases this
      have h2 := wpOp_putIf hoj (hfree j oj hoj hji hjun hno) (fun cs b => hsel i oi cs b hi) (fun cs b => hsel j oj cs b hoj) (fun c a w q => hQ c a _ _ w q) hy (H.2 j (ready_mono hj hji))
      refine wpOp_mono (fun a' w' h3 => ⟨h3.2.1, ih (listed.setIfInBounds j true) a' w' (fun k ok hk hki hku hkn => hfree k ok hk hki ?_ hkn) (ready_mono hr (Ne.symm hji)) h3.1 h3.2.1 ?_⟩) h2
      · by_cases q : j = k
        · subst q; exact hjun
        · rw [getD_set_ne true q] at hku; exact hku
      · rw [Array.setIfInBounds_comm _ _ hji]; exact h3.2.2
/-- The operations from k on, f of them, only answer values, and may be taken now. -/
def lexS (md : Region.Mode) (ops : Array Oper) : Nat → Nat → Array Bool → Bool
  | 0, _, _ => true
  | f + 1, k, listed => (Region.ready md ops listed).contains k && Region.free md ops listed k && lexS md ops f (k + 1) (listed.setIfInBounds k true)
def setsB : Nat → Nat → Array Bool → Array Bool
  | 0, _, listed => listed
  | f + 1, k, listed => setsB f (k + 1) (listed.setIfInBounds k true)
theorem batchS {K : Act → Prop} {w : World} {g : Nat} (hsel : Region.noSelect ops = true) (hQ : ∀ c a d v w, Q (.panic c) (a.put d v) w → Q (.panic c) a w) (hS : S w) :
    ∀ (l : List Oper) (k : Nat) (listed : Array Bool) (a : Act), (∀ j, j < l.length → l[j]? = ops[k + j]?) → lexS md ops l.length k listed = true → l.all readB = true →
    (∀ a', K a' → wpAnyS P md ops Q S g (setsB l.length k listed) a' w) → wpQuiet P ops S K l a → wpAnyS P md ops Q S (g + l.length) listed a w
  | [], k, listed, a, _, _, _, hK, h => hK a h
  | o :: l, k, listed, a, hl, hB, hR, hK, h => by
    have h0 : ops[k]? = some o := by simpa using (hl 0 (by simp)).symm
    simp only [List.length_cons, lexS, Bool.and_eq_true] at hB
    simp only [List.all_cons, Bool.and_eq_true] at hR
    obtain ⟨⟨hr, hf⟩, hB2⟩ := hB
    have hr2 : k ∈ Region.ready md ops listed := by simpa using hr
    have key : ∀ (v : Value), YieldsIf P ops S o v a → wpQuiet P ops S K l (a.put o.dst v) → wpAnyS P md ops Q S (g + (l.length + 1)) listed a w := fun v hy h2 =>
      firstS h0 (Region.noSelect_spec hsel) hQ (g + l.length) listed a w (Region.free_spec h0 hf) hr2 hy hS
        (batchS hsel hQ hS l (k + 1) _ _ (fun j hj => by have := hl (j + 1) (by simp; omega); simpa [Nat.add_assoc, Nat.add_comm 1 j] using this) hB2 hR.2 hK h2)
    unfold wpQuiet at h
    split at h
    · rename_i hw
      obtain ⟨v, h1, h2⟩ := h
      exact key v (yieldsIf_of_quiet hR.1 hw h1) h2
    · rename_i hw
      exact key undef (.inr ⟨by simpa using hw, rfl⟩) h
/-- The region. -/
theorem wp_region_S {id : Nat} {a : Act} {w : World} {l : List Oper} (S : World → Prop) (hm : P.follows .mixedOrders = true) (h : wpAnyS P .any l.toArray Q S l.toArray.size (Array.replicate l.toArray.size false) a w.drew) : (Code.region id l.toArray true).wp P Q a w :=
  wp_region_any hm (wpAny_of_S _ _ _ _ h)
/-- The operations from k on, n of them, that only answer values. -/
theorem takeS {w : World} {l : List Oper} {a : Act} {listed : Array Bool} (g k n : Nat) (hB : (Region.noSelect l.toArray && lexS md l.toArray n k listed && decide (k + n ≤ l.length)) = true) (hR : ((l.drop k).take n).all readB = true)
    (hQ : ∀ c a d v w, Q (.panic c) (a.put d v) w → Q (.panic c) a w) (hS : S w) (h : wpQuiet P l.toArray S (fun a' => wpAnyS P md l.toArray Q S g (setsB n k listed) a' w) ((l.drop k).take n) a) : wpAnyS P md l.toArray Q S (g + n) listed a w := by
  simp only [Bool.and_eq_true, decide_eq_true_eq] at hB
  obtain ⟨⟨hsel, hlex⟩, hkn⟩ := hB
  have hlen : ((l.drop k).take n).length = n := by simp; omega
  have := batchS (md := md) (g := g) hsel hQ hS ((l.drop k).take n) k listed a (fun j hj => by
    rw [hlen] at hj
    simp [List.getElem?_take, hj]) (by rw [hlen]; exact hlex) hR (fun a' ha => by rw [hlen]; exact ha) h
  rwa [hlen] at this
/-- One operation alone may come. -/
theorem oneS {w : World} {l : List Oper} {a : Act} {listed : Array Bool} (f i : Nat) (hB : decide (Region.ready md l.toArray listed = [i]) = true) (hi : i < l.length)
    (h : wpList P l.toArray (Exit.then (fun a' w' => S w' ∧ wpAnyS P md l.toArray Q S f (listed.setIfInBounds i true) a' w') Q) ((l.drop i).take 1) a w) : wpAnyS P md l.toArray Q S (f + 1) listed a w := by
  have hr := of_decide_eq_true hB
  refine ⟨by rw [hr]; simp, fun j hj => ?_⟩
  rw [hr, List.mem_singleton] at hj
  subst hj
  have hop : l.toArray[j]? = some (l[j]'hi) := by simp
  refine wpOp_of_list hop ?_
  have h1 : (l.drop j).take 1 = [l[j]'hi] := by rw [List.drop_eq_getElem_cons hi]; rfl
  rw [← h1]
  exact h
/-- One of two may come. -/
theorem twoS {w : World} {l : List Oper} {a : Act} {listed : Array Bool} (f i j : Nat) (hB : decide (Region.ready md l.toArray listed = [i, j]) = true) (hi : i < l.length) (hj : j < l.length)
    (h : wpList P l.toArray (Exit.then (fun a' w' => S w' ∧ wpAnyS P md l.toArray Q S f (listed.setIfInBounds i true) a' w') Q) ((l.drop i).take 1) a w)
    (h' : wpList P l.toArray (Exit.then (fun a' w' => S w' ∧ wpAnyS P md l.toArray Q S f (listed.setIfInBounds j true) a' w') Q) ((l.drop j).take 1) a w) : wpAnyS P md l.toArray Q S (f + 1) listed a w := by
  have hr := of_decide_eq_true hB
  refine ⟨by rw [hr]; simp, fun k hk => ?_⟩
  rw [hr] at hk
  simp only [List.mem_cons, List.not_mem_nil, or_false] at hk
  rcases hk with rfl | rfl
  · have hop : l.toArray[k]? = some (l[k]'hi) := by simp
    refine wpOp_of_list hop ?_
    have h1 : (l.drop k).take 1 = [l[k]'hi] := by rw [List.drop_eq_getElem_cons hi]; rfl
    rw [← h1]
    exact h
  · have hop : l.toArray[k]? = some (l[k]'hj) := by simp
    refine wpOp_of_list hop ?_
    have h1 : (l.drop k).take 1 = [l[k]'hj] := by rw [List.drop_eq_getElem_cons hj]; rfl
    rw [← h1]
    exact h'
/-- None is left. -/
theorem endS {w : World} {a : Act} {listed : Array Bool} (hB : decide (Region.ready md ops listed = []) = true) (h : Q .normal a w) : wpAnyS P md ops Q S 0 listed a w := ⟨of_decide_eq_true hB, h⟩
end
end Go.Proofs.YtiklbannoinioaaDoor
namespace Go.Proofs.YtiklbannoinioaaDoor
open Go.RowKit BigFrame Go.Maps
set_option linter.unusedVariables false
set_option linter.unusedSimpArgs false
set_option maxRecDepth 100000

theorem elK : ElTy Tryd.prog 70 92 3 24 (.agg #[.int .i64 0, .int .i64 0, .int .i64 0]) := ⟨Tryd.underlying70, by kernel_rfl, rfl, by decide⟩
/-- The cells of a row of items. -/
def itC (l : List K3) : List Value := l.flatMap fun x => [.int .i64 (x.1 : Int), .int .i64 (x.2.1 : Int), .int .i64 (x.2.2 : Int)]
theorem itC_len (l : List K3) : (itC l).length = l.length * 3 := by
  unfold itC
  induction l with
  | nil => rfl
  | cons x l ih => simp only [List.flatMap_cons, List.length_append, List.length_cons, List.length_nil, ih]; omega
theorem itC_snoc (l : List K3) (x : K3) : itC (l ++ [x]) = itC l ++ [.int .i64 (x.1 : Int), .int .i64 (x.2.1 : Int), .int .i64 (x.2.2 : Int)] := by unfold itC; simp
theorem itC_get : ∀ {l : List K3} {k : Nat} {x : K3}, l[k]? = some x → (itC l)[k * 3]? = some (.int .i64 (x.1 : Int)) ∧ (itC l)[k * 3 + 1]? = some (.int .i64 (x.2.1 : Int)) ∧ (itC l)[k * 3 + 2]? = some (.int .i64 (x.2.2 : Int))
  | [], k, x, h => by simp at h
  | y :: l, 0, x, h => by simp at h; subst h; exact ⟨rfl, rfl, rfl⟩
  | y :: l, k + 1, x, h => by
    have e : itC (y :: l) = [.int .i64 (y.1 : Int), .int .i64 (y.2.1 : Int), .int .i64 (y.2.2 : Int)] ++ itC l := by unfold itC; simp
    obtain ⟨h1, h2, h3⟩ := itC_get (l := l) (k := k) (x := x) (by simpa using h)
    rw [e]
    refine ⟨?_, ?_, ?_⟩
    · rw [List.getElem?_append_right (by simp; omega), show (k + 1) * 3 - _ = k * 3 by simp; omega]; exact h1
    · rw [List.getElem?_append_right (by simp; omega), show (k + 1) * 3 + 1 - _ = k * 3 + 1 by simp; omega]; exact h2
    · rw [List.getElem?_append_right (by simp; omega), show (k + 1) * 3 + 2 - _ = k * 3 + 2 by simp; omega]; exact h3

/-- What an append to an own row turns: its own block behind what it held, or nothing. -/
theorem app_sharp {P : Program} {t e : TypeId} {size bytes : Nat} {z : Value} (E : ElTy P t e size bytes z) (ty : TypeId) (w : World) (base : Nat) (v : Value) (n m : Nat) (xs news : List Value) (hown : w.ownsRow base e size v n xs) (c : Nat) (ad : Addr) (hm : 0 < m)
    (hl : news.length = m * size) (hnews : ∀ j u, news[j]? = some u → w.cell? (ad.add j) = some u) (h1 : ∀ u ∈ news, u.oneCell' = true) (h63 : n + m ≤ 140737488355328) (hbytes : (n + m) * bytes ≤ 140737488355328) (hbase : base ≤ w.heap.size) :
    ∃ v' w', (Builtin.append_ #[t, t] ty #[v, .slice (some ad) m c]).run P w = .ok v' w' ∧ w'.ownsRow base e size v' (n + m) (xs ++ news) ∧ w.grownBy w' v.ownBlock ∧ (v'.ownBlock = v.ownBlock ∨ ∃ g', v'.ownBlock = some g' ∧ w.heap.size ≤ g') ∧
      (∀ g, v.ownBlock = some g → ∀ o, o < n * size → w'.cell? ⟨g, o, none⟩ = w.cell? ⟨g, o, none⟩) := by
  obtain ⟨i, hi, hz, hsz, hby⟩ := info_parts E.hi
  have hml : maxLen = 4611686018427387904 ∨ 140737488355328 ≤ maxLen := .inr (by unfold maxLen; omega)
  rcases hown.2 with ⟨rfl, rfl⟩ | ⟨g, cap, cur, rfl, hbg, hg, hnc, hcm, hcs, htk⟩
  · obtain ⟨v', w', hrun, ho, hgr, _, hb5⟩ := run_append_own_at (w := w) base t ty e i z size bytes E.ht hi hz hsz hby E.hz E.hs _ 0 xs hown ad m c news hl hnews h1 (by unfold maxLen; omega) hbytes hbase
    refine ⟨v', w', hrun, ho, hgr, hb5.elim .inl (fun q => .inr ⟨_, q, Nat.le_refl _⟩), fun g q => by simp [Value.ownBlock] at q⟩
  · by_cases hfit : n + m ≤ cap
    · obtain ⟨w', hrun, ho, hgr⟩ := run_append_own_spare (P := P) (w := w) base t ty e i size E.ht hi hsz g n cap xs hown ad m c news hl hnews h1 hfit
      refine ⟨_, w', hrun, ho, hgr, .inl rfl, fun g' q o hoo => ?_⟩
      simp only [Value.ownBlock, Option.some.injEq] at q
      subst q
      have hlt : o < xs.length := by rw [hown.1]; exact hoo
      have hadd : (⟨g, 0, none⟩ : Addr).add o = ⟨g, o, none⟩ := by unfold Addr.add; split <;> simp_all
      have a1 := ho.cells (g := g) rfl o xs[o] (by rw [List.getElem?_append_left hlt]; exact List.getElem?_eq_getElem hlt)
      have a2 := hown.cells (g := g) rfl o xs[o] (List.getElem?_eq_getElem hlt)
      rw [hadd] at a1 a2
      exact a1.trans a2.symm
    · obtain ⟨v', w', hrun, ho, hgr⟩ := run_append_arg_grows (P := P) (w := w) t ty e i z size bytes E.ht hi hz hsz hby E.hz E.hs ⟨g, 0, none⟩ n cap xs hown.1 (fun j u hu => hown.cells (g := g) rfl j u hu) ad m c news hl hnews (by omega) (by unfold maxLen; omega) hbytes
      have hl0 : (xs ++ news).length = (n + m) * size := ho.1
      have ho' : w'.ownsRow base e size v' (n + m) (xs ++ news) := ⟨ho.1, ho.2.imp (fun q => q) (fun ⟨g', cap', cur', q1, q2, q3⟩ => ⟨g', cap', cur', q1, Nat.le_trans hbase q2, q3⟩)⟩
      refine ⟨v', w', hrun, ho', ⟨hgr.os, hgr.tape, hgr.output, hgr.size, fun k hk _ => hgr.block k hk (by simp)⟩, ?_, fun g' q o _ => World.cell?_of_block (a := ⟨g', o, none⟩) (hgr.block g' ?_ (by simp))⟩
      · rcases ho.2 with ⟨_, q⟩ | ⟨g', cap', cur', rfl, q2, _⟩
        · omega
        · exact .inr ⟨g', rfl, q2⟩
      · simp only [Value.ownBlock, Option.some.injEq] at q
        subst q
        exact (Array.getElem?_eq_some_iff.1 hg).1
section
variable {w w' : World} {base n sz : Nat} {e : TypeId} {v : Value} {xs : List Value}
theorem own_blk (h : w.ownsRow base e sz v n xs) {g : Nat} (hg : v.ownBlock = some g) : ∃ vs, Blk w g e vs := by
  rcases h.2 with ⟨rfl, _⟩ | ⟨g', cap, cur, rfl, _, hh, _⟩
  · simp [Value.ownBlock] at hg
  · simp [Value.ownBlock] at hg
    subst hg
    exact ⟨cur.toList, by unfold Blk; rw [hh]⟩
theorem own_kp {Z : Nat → Prop} (h : w.ownsRow base e sz v n xs) (k : Kp Z w w') (hn : ∀ g, v.ownBlock = some g → ¬ Z g) : w'.ownsRow base e sz v n xs := by
  refine ⟨h.1, h.2.imp (fun q => q) ?_⟩
  rintro ⟨g, cap, cur, rfl, q1, q2, q3⟩
  exact ⟨g, cap, cur, rfl, q1, (k.block g (Array.getElem?_eq_some_iff.1 q2).1 (hn g rfl)).trans q2, q3⟩
theorem blk_kp {Z : Nat → Prop} {g : Nat} {vs : List Value} (h : Blk w g e vs) (k : Kp Z w w') (hn : ¬ Z g) : Blk w' g e vs := (k.block g h.lt hn).trans h
theorem blk_ne {g g' : Nat} {e' : TypeId} {vs vs' : List Value} (h : Blk w g e vs) (h' : Blk w g' e' vs') (hne : e ≠ e') : g ≠ g' := by
  rintro rfl
  unfold Blk at h h'
  rw [h] at h'
  cases h'
  exact hne rfl
end
/-- A place's set (its items l: in the row lv, in the map mk), the items still to do. -/
structure FiSt (w : World) (N s mk tb : Nat) (l todo : List K3) (lv tv : Value) : Prop where
  sb : Blk w s 72 [lv, .map (some mk)]
  ol : w.ownsRow N 92 3 lv l.length (itC l)
  im : ∃ f, KMap 92 zeroV w mk l.length f ∧ ∀ x, inK x → (f x).isSome = decide (x ∈ l)
  tB : Blk w tb 70 [tv]
  ot : w.ownsRow N 92 3 tv todo.length (itC todo)
  ne : ∀ g, lv.ownBlock = some g → tv.ownBlock ≠ some g
structure FiNe (w : World) (s mk tb : Nat) (lv tv : Value) : Prop where
  sm : s ≠ mk
  st : s ≠ tb
  mt : mk ≠ tb
  ls : ∀ g, lv.ownBlock = some g → g ≠ s ∧ g ≠ mk ∧ g ≠ tb ∧ g < w.heap.size
  ts : ∀ g, tv.ownBlock = some g → g ≠ s ∧ g ≠ mk ∧ g ≠ tb ∧ g < w.heap.size
  lt : s < w.heap.size ∧ mk < w.heap.size ∧ tb < w.heap.size
theorem FiSt.apart {w : World} {N s mk tb : Nat} {l todo : List K3} {lv tv : Value} (h : FiSt w N s mk tb l todo lv tv) : FiNe w s mk tb lv tv := by
  obtain ⟨f, hm, _⟩ := h.im
  refine ⟨fun e => hm.ne h.sb e.symm, blk_ne h.sb h.tB (by decide), hm.ne h.tB, fun g hg => ?_, fun g hg => ?_, h.sb.lt, hm.lt, h.tB.lt⟩
  · obtain ⟨vs, hv⟩ := own_blk h.ol hg
    exact ⟨blk_ne hv h.sb (by decide), fun e => hm.ne hv e.symm, blk_ne hv h.tB (by decide), hv.lt⟩
  · obtain ⟨vs, hv⟩ := own_blk h.ot hg
    exact ⟨blk_ne hv h.sb (by decide), fun e => hm.ne hv e.symm, blk_ne hv h.tB (by decide), hv.lt⟩
/-- What put turns. -/
structure PutE (s mk tb : Nat) (lv tv : Value) (n : Nat) (w : World) (lv' tv' : Value) (w' : World) : Prop where
  kp : Kp (fun k => k = s ∨ k = mk ∨ k = tb ∨ lv.ownBlock = some k ∨ tv.ownBlock = some k) w w'
  pre : ∀ g, lv.ownBlock = some g → ∀ o, o < n * 3 → w'.cell? ⟨g, o, none⟩ = w.cell? ⟨g, o, none⟩
  lo : lv'.ownBlock = lv.ownBlock ∨ ∃ g', lv'.ownBlock = some g' ∧ w.heap.size ≤ g'
  too : tv'.ownBlock = tv.ownBlock ∨ ∃ g', tv'.ownBlock = some g' ∧ w.heap.size ≤ g'
def insI (l : List K3) (x : K3) : List K3 := if x ∈ l then l else l ++ [x]
theorem FiSt.quiet {w w' : World} {N s mk tb : Nat} {l todo : List K3} {lv tv : Value} {Z : Nat → Prop} (h : FiSt w N s mk tb l todo lv tv) (k : Kp Z w w') (hZ : ∀ b, Z b → w.heap.size ≤ b) : FiSt w' N s mk tb l todo lv tv := by
  have hz : ∀ b, b < w.heap.size → ¬ Z b := fun b h1 h2 => by have := hZ b h2; omega
  have a := h.apart
  obtain ⟨f, hm, h2⟩ := h.im
  exact ⟨blk_kp h.sb k (hz _ a.lt.1), own_kp h.ol k (fun g q => hz _ (a.ls g q).2.2.2), ⟨f, hm.keep k (hz _ a.lt.2.1), h2⟩, blk_kp h.tB k (hz _ a.lt.2.2), own_kp h.ot k (fun g q => hz _ (a.ts g q).2.2.2), h.ne⟩

set_option maxHeartbeats 4000000 in
theorem put_any (cb tob tb c tq s mk bi n1 cpi N : Nat) (l todo : List K3) (lv tv : Value) (x : K3) (hx : inK x) (w : World) (hF : FiSt w N s mk tb l todo lv tv) (hN : N ≤ w.heap.size)
    (z1 : w.cell? ⟨cb, 0, none⟩ = some (.pointer (some ⟨c, 0, none⟩))) (z2 : w.cell? ⟨tob, 0, none⟩ = some (.int .i64 (tq : Int))) (z3 : w.cell? ⟨c, 8, none⟩ = some (.slice (some ⟨bi, 0, none⟩) n1 cpi)) (z4 : w.cell? ⟨bi, tq, none⟩ = some (.pointer (some ⟨s, 0, none⟩)))
    (hto : tq < n1) (hc1 : n1 ≤ cpi) (hc2 : n1 ≤ 1000000) (hl : l.length ≤ 10000000) (ht : todo.length ≤ 10000000) :
    Calls Tryd.prog 33 #[kV x, .pointer (some ⟨cb, 0, none⟩), .pointer (some ⟨tob, 0, none⟩), .pointer (some ⟨tb, 0, none⟩)] w fun e w' => e = .returned (.tuple #[]) ∧
      ∃ lv' tv', FiSt w' N s mk tb (insI l x) (if x ∈ l then todo else todo ++ [x]) lv' tv' ∧ PutE s mk tb lv tv l.length w lv' tv' w' := by
  have hb0 : Below w.heap.size w (w.alloc (.cells #[.int .i64 x.1, .int .i64 x.2.1, .int .i64 x.2.2] 92)) := (Below.refl _ _).alloc (Nat.le_refl _) _
  have y1 := (hb0.cell (p := ⟨cb, 0, none⟩) (lt_cell z1)).trans z1
  have y2 := (hb0.cell (p := ⟨tob, 0, none⟩) (lt_cell z2)).trans z2
  have y3 := (hb0.cell (p := ⟨c, 8, none⟩) (lt_cell z3)).trans z3
  have y4 := (hb0.cell (p := ⟨bi, tq, none⟩) (lt_cell z4)).trans z4
  have hF1 := hF.quiet (Kp.of (S := fun _ => False) hb0) (fun _ q => q.elim)
  have hbx : Blk (w.alloc (.cells #[.int .i64 x.1, .int .i64 x.2.1, .int .i64 x.2.2] 92)) w.heap.size 92 [.int .i64 x.1, .int .i64 x.2.1, .int .i64 x.2.2] := Blk.new w _ _
  have HF := Lib.hid hF; have HF1 := Lib.hid hF1; have HB0 := Lib.hid hb0; have HBX := Lib.hid hbx; have HX := Lib.hid hx
  clear hF hF1 hb0 hbx hx z1 z2 z3 z4
  unfold kV
  go_enter Tryd.func33, Tryd.ntmps33
  go_wp2_with fail
  go_quiet (fail)
  obtain ⟨w2, hw2⟩ : ∃ w2, w2 = (w.alloc (.cells #[.int .i64 x.1, .int .i64 x.2.1, .int .i64 x.2.2] 92)).drewN nq := ⟨_, rfl⟩
  have hb2 : Below w.heap.size w w2 := by rw [hw2]; exact bel_dN HB0.out _
  have hF2 : FiSt w2 N s mk tb l todo lv tv := HF.out.quiet (Kp.of (S := fun _ => False) hb2) (fun _ q => q.elim)
  have hbx2 : Blk w2 w.heap.size 92 [.int .i64 x.1, .int .i64 x.2.1, .int .i64 x.2.2] := by rw [hw2]; exact HBX.out.drewN _
  have v1 := hbx2.cell (i := 0) rfl
  have v2 := hbx2.cell (i := 1) rfl
  have v3 := hbx2.cell (i := 2) rfl
  have HC : Hid (Calls Tryd.prog 34 #[.pointer (some ⟨s, 0, none⟩), kV x] w2 fun e w' => e = .returned (.bool (decide (x ∈ l))) ∧ Below w2.heap.size w2 w') := Lib.hid (by
    obtain ⟨f, h1, h2⟩ := hF2.im
    exact has_any s mk l x HX.out w2 (hF2.sb.cell (i := 1) rfl) ⟨_, f, h1, h2⟩)
  unfold kV at HC
  rw [← hw2]
  have HB2 := Lib.hid hb2; have HF2 := Lib.hid hF2; have HBX2 := Lib.hid hbx2
  clear hw2 hb2 hF2 hbx2 y1 y2 y3 y4 HF1 HB0 HBX
  by_cases q : x ∈ l
  · rw [decide_eq_true q] at HC
    have HQ := Lib.hid q
    clear q
    go_wp2_with fail
    refine HC.out.mono ?_
    rintro e w3 ⟨rfl, hb3⟩
    have hbw : Below w.heap.size w w3 := HB2.out.trans (hb3.mono HB2.out.size)
    have HFIN := Lib.hid hbw
    clear hb3 hbw
    go_wp2_with fail
    go_end0
    refine ⟨rfl, lv, tv, by unfold insI; simp only [if_pos HQ.out]; exact HF.out.quiet (Kp.of (S := fun _ => False) HFIN.out) (fun _ q => q.elim), ⟨(Kp.of (S := fun _ => False) HFIN.out).mono fun _ _ q => q.elim, fun g hg o ho => HFIN.out.cell (p := ⟨g, o, none⟩) (HF.out.apart.ls g hg).2.2.2, .inl rfl, .inl rfl⟩⟩
  · rw [decide_eq_false q] at HC
    have HQ := Lib.hid q
    clear q
    go_wp2_with fail
    refine HC.out.mono ?_
    rintro e w3 ⟨rfl, hb3⟩
    have hbw : Below w.heap.size w w3 := HB2.out.trans (hb3.mono HB2.out.size)
    have hF3 : FiSt w3 N s mk tb l todo lv tv := HF.out.quiet (Kp.of (S := fun _ => False) hbw) (fun _ q => q.elim)
    have hbx3 : Blk w3 w.heap.size 92 [.int .i64 x.1, .int .i64 x.2.1, .int .i64 x.2.2] := HBX2.out.below' hb3
    obtain ⟨w4, hw4⟩ : ∃ w4, w4 = w3.drew := ⟨_, rfl⟩
    have hb4 : Below w.heap.size w w4 := by rw [hw4]; exact hbw.drew
    have hF4 : FiSt w4 N s mk tb l todo lv tv := HF.out.quiet (Kp.of (S := fun _ => False) hb4) (fun _ q => q.elim)
    have hbx4 : Blk w4 w.heap.size 92 [.int .i64 x.1, .int .i64 x.2.1, .int .i64 x.2.2] := by rw [hw4]; exact hbx3.drew
    obtain ⟨A, cl, rfl, hcl1, hcl2, -⟩ := own_form hF4.ol
    obtain ⟨At, ct, rfl, hct1, hct2, -⟩ := own_form hF4.ot
    unfold maxLen at hcl2 hct2
    have v1 := hbx4.cell (i := 0) rfl
    have v2 := hbx4.cell (i := 1) rfl
    have v3 := hbx4.cell (i := 2) rfl
    have s0 := hF4.sb.cell (i := 0) rfl
    have s1 := hF4.sb.cell (i := 1) rfl
    obtain ⟨f, hm, hfm⟩ := hF4.im
    obtain ⟨w5, hput, hm5, hg5⟩ := hm.put (t := 69) (e := 3) lawI3 (fun x => keyI3) Tryd.underlying69 HX.out (v := .int .i64 (l.length : Int)) (d := .lit (.int .i64 (l.length : Int))) rfl (by unfold maxLen; omega)
    have hfx : (f x).isSome = false := by rw [hfm x HX.out]; exact decide_eq_false HQ.out
    rw [hfx] at hm5
    have hA4 := hF4.apart
    have k45 : Kp (fun k => k = mk) w4 w5 := ⟨hg5.os, hg5.tape, hg5.output, hg5.size, fun k hk hn => hg5.block k hk (fun e => hn (by cases e; rfl))⟩
    -- the map has it
    have hK5 : Hid (Blk w5 s 72 [.slice A l.length cl, .map (some mk)] ∧ w5.ownsRow N 92 3 (.slice A l.length cl) l.length (itC l) ∧ KMap 92 zeroV w5 mk (l.length + 1) (fun y => if y = x then some (.int .i64 (l.length : Int)) else f y) ∧ Blk w5 tb 70 [.slice At todo.length ct] ∧ w5.ownsRow N 92 3 (.slice At todo.length ct) todo.length (itC todo) ∧ Blk w5 w.heap.size 92 [.int .i64 x.1, .int .i64 x.2.1, .int .i64 x.2.2]) := Lib.hid
      ⟨blk_kp hF4.sb k45 hA4.sm, own_kp hF4.ol k45 (fun g q => (hA4.ls g q).2.1), by simpa using hm5, blk_kp hF4.tB k45 hA4.mt.symm, own_kp hF4.ot k45 (fun g q => (hA4.ts g q).2.1), blk_kp hbx4 k45 (fun e => hm.ne hbx4 e.symm)⟩
    have HFM := Lib.hid hfm; have HA4 := Lib.hid hA4; have K45 := Lib.hid k45; have HB4 := Lib.hid hb4; have HW4 := Lib.hid hw4; have HNE := Lib.hid hF4.ne; have HF4 := Lib.hid hF4
    unfold kV at hput
    clear hm hm5 hfm hfx hA4 k45 hg5 hF4 hbx4 hb4 hF3 hbx3 hbw hb3
    go_wp2_with fail
    refine wp_region_still_tail 10 (by kernel_rfl) (by kernel_rfl) ?_
    simp only [List.take_succ_cons, List.take_zero, List.drop_succ_cons, List.drop_zero]
    change wpStill _ _ w3.drew (fun a' => wpList _ _ _ _ a' w3.drew) _ _
    rw [← hw4]
    clear hw4
    refine wpStill_of_quiet _ _ ?_
    repeat (first | go_big_quiet_skip | (go_big_quiet_want; go_big_quiet_op; go_big_quiet_on))
    refine wpQuiet_nil ?_
    go_wp2_with fail
    clear hput v1 v2 v3 s0 s1
    obtain ⟨w6, hw6⟩ : ∃ w6, w6 = w5.drew := ⟨_, rfl⟩
    have k56 : Kp (fun _ => False) w5 w6 := by rw [hw6]; exact (Kp.refl _ _).draw
    obtain ⟨q1, q2, q3, q4, q5, q6⟩ := hK5.out
    have q1' : Blk w6 s 72 [.slice A l.length cl, .map (some mk)] := by rw [hw6]; exact q1.drew
    have q6' : Blk w6 w.heap.size 92 [.int .i64 x.1, .int .i64 x.2.1, .int .i64 x.2.2] := by rw [hw6]; exact q6.drew
    have r0 := fun (X : WB w6.heap.size w6) => (X.bel.cell (p := ⟨s, 0, none⟩) q1'.lt).trans (q1'.cell (i := 0) rfl)
    have r1 := fun (X : WB w6.heap.size w6) => (X.bel.cell (p := ⟨w.heap.size, 0, none⟩) q6'.lt).trans (q6'.cell (i := 0) rfl)
    have r2 := fun (X : WB w6.heap.size w6) => (X.bel.cell (p := ⟨w.heap.size, 1, none⟩) q6'.lt).trans (q6'.cell (i := 1) rfl)
    have r3 := fun (X : WB w6.heap.size w6) => (X.bel.cell (p := ⟨w.heap.size, 2, none⟩) q6'.lt).trans (q6'.cell (i := 2) rfl)
    clear q1 q2 q3 q4 q5 q6
    refine wp_region_keep (fun w' => ∃ X : WB w6.heap.size w6, w' = X.val) 1 6 (by kernel_rfl) (by kernel_rfl) (by kernel_rfl) (by kernel_rfl) (fun _ _ d _ _ h => by cases d <;> exact h) ⟨⟨_, Below.refl _ _⟩, hw6.symm⟩ ?_
    rw [← hw6]
    clear hw6
    simp only [List.take_succ_cons, List.take_zero, List.drop_succ_cons, List.drop_zero]
    repeat (first | go_big_quiet_skip | (go_big_quiet_want; go_big_quiet_op; go_big_quiet_on))
    refine wpQuiet_nil ?_
    obtain ⟨q1, q2, q3, q4, q5, q6⟩ := hK5.out
    obtain ⟨w7, hw7⟩ : ∃ w7, w7 = w6.alloc (.cells #[.int .i64 x.1, .int .i64 x.2.1, .int .i64 x.2.2] 92) := ⟨_, rfl⟩
    have hb67 : Below w6.heap.size w6 w7 := by rw [hw7]; exact (Below.refl _ _).alloc (Nat.le_refl _) _
    have k57 : Kp (fun _ => False) w5 w7 := k56.trans (Kp.of hb67)
    have hz7 : w7.heap.size = w6.heap.size + 1 := by rw [hw7]; simp
    have hs45 := K45.out.size
    have hs57 := k56.size
    have hs04 := HB4.out.size
    have hnw : Blk w7 w6.heap.size 92 [.int .i64 x.1, .int .i64 x.2.1, .int .i64 x.2.2] := by rw [hw7]; exact Blk.new w6 _ _
    have o7 := own_kp q2 k57 (fun _ _ q => q)
    obtain ⟨lv', w8, happ, hown8, hg8, hlo8, hpre8⟩ := app_sharp elK 70 w7 N _ l.length 1 (itC l) [.int .i64 x.1, .int .i64 x.2.1, .int .i64 x.2.2] o7 1 ⟨w6.heap.size, 0, none⟩ (by omega) rfl (fun j u hu => by
      have hadd : (⟨w6.heap.size, 0, none⟩ : Addr).add j = ⟨w6.heap.size, j, none⟩ := by unfold Addr.add; split <;> simp_all
      rw [hadd]; exact hnw.cell hu) (by simp [Value.oneCell']) (by omega) (by omega) (by omega)
    obtain ⟨A8, c8, rfl, -, -, -⟩ := own_form hown8
    have k78 : Kp (fun k => (Value.slice A l.length cl).ownBlock = some k) w7 w8 := ⟨hg8.os, hg8.tape, hg8.output, hg8.size, fun k hk hn => hg8.block k hk (fun e => hn e.symm)⟩
    have a4 := HA4.out
    have s8 : Blk w8 s 72 [.slice A l.length cl, .map (some mk)] := blk_kp (blk_kp q1 k57 (fun q => q)) k78 (fun e => (a4.ls s e).1 rfl)
    have m8 := (q3.keep k57 (fun q => q)).keep k78 (fun e => (a4.ls mk e).2.1 rfl)
    have t8 : Blk w8 tb 70 [.slice At todo.length ct] := blk_kp (blk_kp q4 k57 (fun q => q)) k78 (fun e => (a4.ls tb e).2.2.1 rfl)
    have o8 := own_kp (own_kp q5 k57 (fun _ _ q => q)) k78 (fun g e e2 => HNE.out g e2 e)
    have b8 : Blk w8 w.heap.size 92 [.int .i64 x.1, .int .i64 x.2.1, .int .i64 x.2.2] := blk_kp (blk_kp q6 k57 (fun q => q)) k78 (fun e => by
      have h1 := (HF.out.apart.ls _ e).2.2.2
      exact absurd h1 (Nat.lt_irrefl _))
    have c8s := s8.cell (i := 0) rfl
    have f8s := s8.frozen 0
    obtain ⟨w9, hw9⟩ : ∃ w9, w9 = w8.setCell ⟨s, 0, none⟩ (.slice A8 (l.length + 1) c8) := ⟨_, rfl⟩
    have k89 : Kp (fun k => k = s) w8 w9 := by rw [hw9]; exact (Kp.refl (fun k => k = s) w8).set_ (p := ⟨s, 0, none⟩) (.inr rfl) _
    have hne8 : ∀ g, (Value.slice A8 (l.length + 1) c8).ownBlock = some g → g ≠ s := fun g e => by
      obtain ⟨vs, hv⟩ := own_blk hown8 e
      exact blk_ne hv s8 (by decide)
    have s9 : Blk w9 s 72 [.slice A8 (l.length + 1) c8, .map (some mk)] := by rw [hw9]; exact s8.set_ 0 _
    have l9 := own_kp hown8 k89 hne8
    have m9 := m8.keep k89 a4.sm.symm
    have t9 := blk_kp t8 k89 a4.st.symm
    have o9 := own_kp o8 k89 (fun g e => (a4.ts g e).1)
    have b9 := blk_kp b8 k89 (fun e => blk_ne b8 s8 (by decide) e)
    obtain ⟨w10, hw10⟩ : ∃ w10, w10 = w9.alloc (.cells #[.int .i64 x.1, .int .i64 x.2.1, .int .i64 x.2.2] 92) := ⟨_, rfl⟩
    have hb910 : Below w9.heap.size w9 w10 := by rw [hw10]; exact (Below.refl _ _).alloc (Nat.le_refl _) _
    have k910 : Kp (fun _ => False) w9 w10 := Kp.of hb910
    have hnw2 : Blk w10 w9.heap.size 92 [.int .i64 x.1, .int .i64 x.2.1, .int .i64 x.2.2] := by rw [hw10]; exact Blk.new w9 _ _
    have hs78 := k78.size
    have hs89 := k89.size
    have hs910 := k910.size
    have o10 := own_kp o9 k910 (fun _ _ q => q)
    obtain ⟨tv', w11, happ2, hown11, hg11, hlo11, hpre11⟩ := app_sharp elK 70 w10 N _ todo.length 1 (itC todo) [.int .i64 x.1, .int .i64 x.2.1, .int .i64 x.2.2] o10 1 ⟨w9.heap.size, 0, none⟩ (by omega) rfl (fun j u hu => by
      have hadd : (⟨w9.heap.size, 0, none⟩ : Addr).add j = ⟨w9.heap.size, j, none⟩ := by unfold Addr.add; split <;> simp_all
      rw [hadd]; exact hnw2.cell hu) (by simp [Value.oneCell']) (by omega) (by omega) (by omega)
    obtain ⟨A11, c11, rfl, -, -, -⟩ := own_form hown11
    have k1011 : Kp (fun k => (Value.slice At todo.length ct).ownBlock = some k) w10 w11 := ⟨hg11.os, hg11.tape, hg11.output, hg11.size, fun k hk hn => hg11.block k hk (fun e => hn e.symm)⟩
    -- the new row of the set and the old row of what is tq do are apart
    have hnn : ∀ g, (Value.slice A8 (l.length + 1) c8).ownBlock = some g → (Value.slice At todo.length ct).ownBlock ≠ some g := fun g e e2 => by
      rcases hlo8 with q | ⟨g', q, hq⟩
      · exact HNE.out g (q ▸ e) e2
      · have h1 := (HF.out.apart.ts g e2).2.2.2
        rw [q] at e
        cases e
        omega
    have s11 := blk_kp (blk_kp s9 k910 (fun q => q)) k1011 (fun e => (a4.ts s e).1 rfl)
    have l11 := own_kp (own_kp l9 k910 (fun _ _ q => q)) k1011 hnn
    have m11 := (m9.keep k910 (fun q => q)).keep k1011 (fun e => (a4.ts mk e).2.1 rfl)
    have t11 : Blk w11 tb 70 [.slice At todo.length ct] := blk_kp (blk_kp t9 k910 (fun q => q)) k1011 (fun e => (a4.ts tb e).2.2.1 rfl)
    obtain ⟨w12, hw12⟩ : ∃ w12, w12 = w11.setCell ⟨tb, 0, none⟩ (.slice A11 (todo.length + 1) c11) := ⟨_, rfl⟩
    have k1112 : Kp (fun k => k = tb) w11 w12 := by rw [hw12]; exact (Kp.refl (fun k => k = tb) w11).set_ (p := ⟨tb, 0, none⟩) (.inr rfl) _
    have hne11 : ∀ g, (Value.slice A11 (todo.length + 1) c11).ownBlock = some g → g ≠ tb := fun g e => by
      obtain ⟨vs, hv⟩ := own_blk hown11 e
      exact blk_ne hv t11 (by decide)
    have hnn2 : ∀ g, (Value.slice A8 (l.length + 1) c8).ownBlock = some g → (Value.slice A11 (todo.length + 1) c11).ownBlock ≠ some g := fun g e e2 => by
      rcases hlo11 with q | ⟨g', q, hq⟩
      · exact hnn g e (q ▸ e2)
      · obtain ⟨vs, hv⟩ := own_blk l9 e
        have h1 := hv.lt
        rw [q] at e2
        cases e2
        omega
    have HFIN : Hid (∃ lv' tv', FiSt w12 N s mk tb (l ++ [x]) (todo ++ [x]) lv' tv' ∧ PutE s mk tb (.slice A l.length cl) (.slice At todo.length ct) l.length w lv' tv' w12) := Lib.hid (by
      refine ⟨_, _, ⟨blk_kp s11 k1112 a4.st, ?_, ⟨fun y => if y = x then some (.int .i64 (l.length : Int)) else f y, ?_, ?_⟩, by rw [hw12]; exact t11.set_ 0 _, ?_, hnn2⟩, ⟨?_, ?_, hlo8.imp (fun q => q) (fun ⟨g', q1, q2⟩ => ⟨g', q1, by omega⟩), hlo11.imp (fun q => q) (fun ⟨g', q1, q2⟩ => ⟨g', q1, by omega⟩)⟩⟩
      · have := own_kp l11 k1112 (fun g e => (fun (e2 : g = tb) => by
          obtain ⟨vs, hv⟩ := own_blk l11 e
          exact blk_ne hv t11 (by decide) e2))
        rw [itC_snoc, List.length_append]
        exact this
      · have := m11.keep k1112 a4.mt
        rw [List.length_append]
        exact this
      · intro y hy
        simp only
        by_cases e : y = x
        · subst e; simp
        · rw [if_neg e, HFM.out y hy]; simp [e]
      · have := own_kp hown11 k1112 hne11
        rw [itC_snoc, List.length_append]
        exact this
      · have e1 : Kp (fun k => k = s ∨ k = mk ∨ k = tb ∨ (Value.slice A l.length cl).ownBlock = some k ∨ (Value.slice At todo.length ct).ownBlock = some k) w w4 := Kp.of HB4.out
        exact ((((((e1.trans (K45.out.mono fun _ _ q => .inr (.inl q))).trans (k57.mono fun _ _ q => q.elim)).trans (k78.mono fun _ _ q => .inr (.inr (.inr (.inl q))))).trans (k89.mono fun _ _ q => .inl q)).trans (k910.mono fun _ _ q => q.elim)).trans (k1011.mono fun _ _ q => .inr (.inr (.inr (.inr q))))).trans (k1112.mono fun _ _ q => .inr (.inr (.inl q)))
      · intro g hg o ho
        have n4 := a4.ls g hg
        have n0 := (HF.out.apart.ls g hg).2.2.2
        have d1 := HB4.out.cell (p := ⟨g, o, none⟩) n0
        have d2 := K45.out.cell (p := ⟨g, o, none⟩) n4.2.2.2 n4.2.1
        have d3 := k57.cell (p := ⟨g, o, none⟩) (by show g < _; omega) (fun q => q)
        have d4 := hpre8 g hg o ho
        have d5 := k89.cell (p := ⟨g, o, none⟩) (by show g < _; omega) n4.1
        have d6 := k910.cell (p := ⟨g, o, none⟩) (by show g < _; omega) (fun q => q)
        have d7 := k1011.cell (p := ⟨g, o, none⟩) (by show g < _; omega) (fun e => HNE.out g hg e)
        have d8 := k1112.cell (p := ⟨g, o, none⟩) (by show g < _; have := k1011.size; omega) n4.2.2.1
        exact d8.trans (d7.trans (d6.trans (d5.trans (d4.trans (d3.trans (d2.trans d1)))))))
    have c8s := s8.cell (i := 0) rfl
    have f8s := s8.frozen 0
    have c9t := t9.cell (i := 0) rfl
    have c9x := b9.cell (i := 0) rfl
    have c9y := b9.cell (i := 1) rfl
    have c9z := b9.cell (i := 2) rfl
    have c11t := t11.cell (i := 0) rfl
    have f11t := t11.frozen 0
    have hz9 : w9.heap.size = w8.heap.size := by rw [hw9]; simp
    rw [hw10, hz9, hw9] at happ2
    rw [hw9] at c9t c9x c9y c9z
    have HW7 := Lib.hid hw7; have HAP := Lib.hid happ; have HAP2 := Lib.hid happ2; have HW9 := Lib.hid hw9; have HW10 := Lib.hid hw10; have HW12 := Lib.hid hw12
    clear hz9 happ happ2 hw9 hw10 hw12 k1112 hne11 hnn2 s11 l11 m11 t11 hnn k1011 hpre11 hlo11 hg11 hown11 o10 hnw2 k910 hb910 b9 o9 t9 m9 l9 s9 hne8 k89 b8 o8 t8 m8 s8 a4 k78 hpre8 hlo8 hg8 hown8 o7 hnw k57 hb67 hw7 q1 q2 q3 q4 q5 q6 q1' q6' r0 r1 r2 r3 k56 hK5 HFM HA4 K45 HF4 HNE HF HBX2 HC
    go_wp2_with fail
    refine And.intro ⟨WB.mk _ ((Below.refl _ _).alloc (Nat.le_refl _) _), rfl⟩ ?_
    rw [← HW7.out]
    go_wp2_with (first | (at_builtin; refine Lib.wpList_append_run _ rfl _ _ _ _ rfl _ _ rfl rfl _ _ HAP.out ?_; clear HAP) | (at_builtin; refine Lib.wpList_append_run _ rfl _ _ _ _ rfl _ _ rfl rfl _ _ HAP2.out ?_; clear HAP2))
    rw [← HW12.out]
    go_end0
    unfold insI
    simp only [if_neg HQ.out]
    exact ⟨trivial, HFIN.out⟩
end Go.Proofs.YtiklbannoinioaaDoor
