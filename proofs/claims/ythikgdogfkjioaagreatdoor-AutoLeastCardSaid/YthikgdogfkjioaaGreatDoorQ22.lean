/- A region that draws its order: copies ahead that nobody may wait for; reads; one operation that makes memory and leaves alone what is read; a tail in one order. · A region that draws its order, walked by steps: what only answers a value is taken in the order of the text; of what makes or writes memory each that may come. -/
import Derived.Test.YthikgdogfkjioaaGreatDoorQ11
import Derived.Test.YthikgdogfkjioaaGreatDoorQ21
import Derived.OrdersHeld
namespace Go.Proofs.YthikgdogfkjioaaGreatDoor
open Go
set_option linter.unusedVariables false
set_option linter.unusedSimpArgs false

section
variable {P : Program} {ops : Array Oper} {md : Region.Mode} {Q : Exit → Act → World → Prop} {S : World → Prop}
/-- Operations that answer a value, and no call. -/
def readB (o : Oper) : Bool :=
  match o.op with
  | .move _ | .assign _ | .pick .. | .binOp .. | .unOp .. | .convert .. | .fieldAddr .. | .field .. | .indexAddr .. | .index .. | .load .. | .lookup .. | .extract .. | .nilCheck _ | .build .. | .slice .. | .makeInterface .. => true
  | .call c => match c.callee with | .builtin .len | .builtin .cap | .builtin .min | .builtin .max => true | _ => false
  | _ => false
theorem map_value {s : Sem Value} {w : World} {n : Next} {w' : World} (h : (do pure (Next.value (← s)) : Sem Next).run P w = .ok n w') : ∃ v, n = .value v := by
  simp only [Sem.run_bind] at h
  generalize s.run P w = r at h
  cases r with
  | ok v w2 => simp [Result.andThen] at h; exact ⟨v, h.1.symm⟩
  | halt x w2 => simp [Result.andThen] at h
theorem seq_value {α : Type} {s : Sem α} {f : α → Sem Next} {w : World} {n : Next} {w' : World} (hf : ∀ a w n w', (f a).run P w = .ok n w' → ∃ v, n = .value v) (h : (s >>= f).run P w = .ok n w') : ∃ v, n = .value v := by
  simp only [Sem.run_bind] at h
  generalize s.run P w = r at h
  cases r with
  | ok a w2 => exact hf a w2 n w' h
  | halt x w2 => simp [Result.andThen] at h
theorem read_value {o : Oper} (h : readB o = true) {ρ : Operand → Value} {w w' : World} {n : Next} (hr : (execOp ρ o).run P w = .ok n w') : ∃ v, n = .value v := by
  unfold execOp at hr
  unfold readB at h
  generalize o.op = op at h hr
  cases op <;> (try simp only [reduceCtorEq] at h) <;> first | exact map_value hr | skip
  case move x => exact ⟨_, by simp at hr; exact hr.1.symm⟩
  case assign x => exact ⟨_, by simp at hr; exact hr.1.symm⟩
  case call c =>
    obtain ⟨callee, args, ats⟩ := c
    cases callee with
    | builtin b =>
      cases b <;> simp only [reduceCtorEq, Bool.false_eq_true] at h <;> (simp only [resolve, Sem.run_bind, Sem.run_pure, Result.andThen, invoke, builtin] at hr; exact map_value (by simpa [Sem.run_bind, Result.andThen] using hr))
    | invoke r n => simp at h
    | value f => simp at h
  case pick c a b =>
    simp only [Sem.run_bind] at hr
    generalize (asBool (ρ c)).run P w = r at hr
    cases r with
    | ok v w2 => simp [Result.andThen] at hr; exact ⟨_, hr.1.symm⟩
    | halt x w2 => simp [Result.andThen] at hr
  case nilCheck x =>
    simp only at hr
    split at hr
    · simp [runtimePanic] at hr
    · simp [runtimePanic] at hr
    · simp [runtimePanic] at hr
    · split at hr
      · simp [runtimePanic] at hr
      · refine seq_value (fun a w n w' hr => ?_) hr
        refine seq_value (fun a w n w' hr => ?_) hr
        split at hr
        · refine seq_value (fun a w n w' hr => ?_) hr
          simp at hr; exact ⟨_, hr.1.symm⟩
        · simp at hr; exact ⟨_, hr.1.symm⟩
      · simp at hr; exact ⟨_, hr.1.symm⟩
    · simp at hr; exact ⟨_, hr.1.symm⟩
/-- As long as an operation ahead is left, whatever comes up leaves S. -/
def wpAnyM (P : Program) (md : Region.Mode) (ops : Array Oper) (Q : Exit → Act → World → Prop) (S : World → Prop) (n : Nat) (L : Array Bool → Act → World → Prop) : Nat → Array Bool → Act → World → Prop
  | 0, listed, a, w => L listed a w
  | f + 1, listed, a, w => Region.ready md ops listed ≠ [] ∧ ∀ i ∈ Region.ready md ops listed, i < n ∧ wpOp P ops Q i (fun a' w' => S w' ∧ wpAnyM P md ops Q S n L f (listed.setIfInBounds i true) a' w') a w
theorem wpAny_of_M {n g : Nat} {L : Array Bool → Act → World → Prop} (hL : ∀ listed a w, L listed a w → wpAny P md ops Q g listed a w) :
    ∀ (f : Nat) (listed : Array Bool) (a : Act) (w : World), wpAnyM P md ops Q S n L f listed a w → wpAny P md ops Q (f + g) listed a w
  | 0, listed, a, w, h => by rw [Nat.zero_add]; exact hL _ _ _ h
  | f + 1, listed, a, w, h => by
    rw [show f + 1 + g = (f + g) + 1 by omega]
    exact ⟨fun h0 => absurd h0 h.1, fun i hi => wpOp_mono (fun a' w' h' => wpAny_of_M hL f _ a' w' h'.2) (h.2 i hi).2⟩
theorem firstM {n i : Nat} {oi : Oper} {v : Value} {L0 : Array Bool} {L : Array Bool → Act → World → Prop} (hi : ops[i]? = some oi) (hsel : ∀ (j : Nat) (o : Oper) cs b, ops[j]? = some o → o.op ≠ .select cs b)
    (hQ : ∀ c a d v w, Q (.panic c) (a.put d v) w → Q (.panic c) a w)
    (hs : sinkL md ops n L0 = true) (hc : Region.chainB md ops n = true) (hn : n < ops.size) (hin : i < n)
    (hdone : ∀ listed a w, L listed a w → ∀ j ∈ Region.ready md ops listed, n ≤ j) :
    ∀ (f : Nat) (listed : Array Bool) (a : Act) (w : World), HeadInv md ops n listed → Over L0 listed →
      (∀ j oj, ops[j]? = some oj → j ≠ i → listed.getD j true = false → (∀ e ∈ oj.after, Region.binds md e = true → e.on ≠ i) → oi.apart ops oj = true) →
      i ∈ Region.ready md ops listed → YieldsIf P ops S oi v a → S w →
      wpAnyM P md ops Q S n L f (listed.setIfInBounds i true) (a.put oi.dst v) w → wpAnyM P md ops Q S n L (f + 1) listed a w := by
  intro f
  induction f with
  | zero =>
    intro listed a w inv ho _ hr hy hS H
    have hun := (mem_ready.1 hr).1
    refine ⟨fun h => (by rw [h] at hr; cases hr), fun j hj => ?_⟩
    have hjn : j < n := Nat.lt_of_not_le fun q => tailL hs hc hn inv ho _ i (Nat.le_refl _) hin hun j q hj
    by_cases hji : j = i
    · subst hji; exact ⟨hjn, hy.wpOp hi hS ⟨hS, H⟩⟩
    · have := hdone _ _ _ H j (ready_mono hj hji); omega
  | succ f ih =>
    intro listed a w inv ho hfree hr hy hS H
    have hun := (mem_ready.1 hr).1
    refine ⟨fun h => (by rw [h] at hr; cases hr), fun j hj => ?_⟩
    have hjn : j < n := Nat.lt_of_not_le fun q => tailL hs hc hn inv ho _ i (Nat.le_refl _) hin hun j q hj
    by_cases hji : j = i
    · subst hji; exact ⟨hjn, hy.wpOp hi hS ⟨hS, H⟩⟩
    · obtain ⟨hjun, oj, hoj, hall⟩ := mem_ready.1 hj
      have hno : ∀ e ∈ oj.after, Region.binds md e = true → e.on ≠ i := fun e he hb q => by
        have := hall e he hb
        rw [q, getD_both hun] at this
        cases this
      have h2 := wpOp_putIf hoj (hfree j oj hoj hji hjun hno) (fun cs b => hsel i oi cs b hi) (fun cs b => hsel j oj cs b hoj) (fun c a w q => hQ c a _ _ w q) hy (H.2 j (ready_mono hj hji)).2
      refine ⟨hjn, wpOp_mono (fun a' w' h3 => ⟨h3.2.1, ih (listed.setIfInBounds j true) a' w' (inv.set hj hjn) (ho.set j) (fun k ok hk hki hku hkn => hfree k ok hk hki ?_ hkn) (ready_mono hr (Ne.symm hji)) h3.1 h3.2.1 ?_⟩) h2⟩
      · by_cases q : j = k
        · subst q; exact hjun
        · rw [getD_set_ne true q] at hku; exact hku
      · rw [Array.setIfInBounds_comm _ _ hji]; exact h3.2.2
def lexM (md : Region.Mode) (ops : Array Oper) (g : Nat) : Nat → Nat → Array Bool → Bool
  | 0, k, listed => decide (Region.ready md ops listed = [k]) && Region.seqB md ops g (k + 1) (listed.setIfInBounds k true)
  | f + 1, k, listed => (Region.ready md ops listed).contains k && Region.free md ops listed k && lexM md ops g f (k + 1) (listed.setIfInBounds k true)
theorem yieldsIf_of_quiet {o : Oper} {a : Act} {v : Value} (hr : readB o = true) (hw : Region.wanted o (yielded ops a.tmps) = true) (h : ∀ w, S w → o.quietAt P a S w v) : YieldsIf P ops S o v a :=
  .inl ⟨hw, fun w hS => by
    have h1 := h w hS
    unfold Oper.quietAt at h1
    generalize hx : (execOp a.eval o).run P w = r at h1
    cases r with
    | halt x w' => exact h1.elim
    | ok n w' =>
      obtain ⟨u, rfl⟩ := read_value hr hx
      obtain ⟨rfl, rfl⟩ := h1
      rfl⟩
theorem headM {n g : Nat} {L0 : Array Bool} {K : Act → Prop} {T : Act → World → Prop} {w : World} (hsel : Region.noSelect ops = true) (hQ : ∀ c a d v w, Q (.panic c) (a.put d v) w → Q (.panic c) a w)
    (hs : sinkL md ops (n + 1) L0 = true) (hc : Region.chainB md ops (n + 1) = true) (hn : n + 1 < ops.size) (hS : S w) (hK : ∀ a, K a → wpOp P ops Q n (fun a' w' => S w' ∧ T a' w') a w) :
    ∀ (l : List Oper) (k : Nat) (listed : Array Bool) (a : Act), (∀ j, j < l.length → l[j]? = ops[k + j]?) → k + l.length = n → HeadInv md ops (n + 1) listed → Over L0 listed →
    lexM md ops g l.length k listed = true → l.all readB = true → wpQuiet P ops S K l a →
    wpAnyM P md ops Q S (n + 1) (fun listed' a' w' => Region.seqB md ops g (n + 1) listed' = true ∧ T a' w') (l.length + 1) listed a w
  | [], k, listed, a, _, hk, _, _, hB, _, h => by
    obtain rfl : k = n := by simpa using hk
    simp only [List.length_nil, lexM, Bool.and_eq_true, decide_eq_true_eq] at hB
    refine ⟨fun h0 => (by rw [hB.1] at h0; cases h0), fun i hi => ?_⟩
    rw [hB.1, List.mem_singleton] at hi
    subst hi
    exact ⟨Nat.lt_succ_self _, wpOp_mono (fun a' w' h2 => ⟨h2.1, hB.2, h2.2⟩) (hK a h)⟩
  | o :: l, k, listed, a, hl, hk, inv, ho, hB, hR, h => by
    have h0 : ops[k]? = some o := by simpa using (hl 0 (by simp)).symm
    simp only [List.length_cons, lexM, Bool.and_eq_true] at hB
    simp only [List.all_cons, Bool.and_eq_true] at hR
    obtain ⟨⟨hr, hf⟩, hB2⟩ := hB
    have hkn : k < n + 1 := by simp only [List.length_cons] at hk; omega
    have hr2 : k ∈ Region.ready md ops listed := by simpa using hr
    have key : ∀ (v : Value), YieldsIf P ops S o v a → wpQuiet P ops S K l (a.put o.dst v) → wpAnyM P md ops Q S (n + 1) (fun listed' a' w' => Region.seqB md ops g (n + 1) listed' = true ∧ T a' w') (l.length + 1 + 1) listed a w := fun v hy h2 =>
      firstM h0 (Region.noSelect_spec hsel) hQ hs hc hn hkn (fun _ _ _ hL => seqB_ready hL.1) (l.length + 1) listed a w inv ho (Region.free_spec h0 hf) hr2 hy hS
        (headM hsel hQ hs hc hn hS hK l (k + 1) _ _ (fun j hj => by have := hl (j + 1) (by simp; omega); simpa [Nat.add_assoc, Nat.add_comm 1 j] using this) (by simp only [List.length_cons] at hk; omega) (inv.set hr2 hkn) (ho.set k) hB2 hR.2 h2)
    unfold wpQuiet at h
    split at h
    · rename_i hw
      obtain ⟨v, h1, h2⟩ := h
      exact key v (yieldsIf_of_quiet hR.1 hw h1) h2
    · rename_i hw
      exact key undef (.inr ⟨by simpa using hw, rfl⟩) h
theorem yld_of_quiet {K : Act → Prop} {w : World} (hS : S w) (l2 : List Oper) : ∀ (l : List Oper) (a : Act), movesB l = true → wpQuiet P ops S K (l ++ l2) a → wpYld P ops (fun a' => wpQuiet P ops S K l2 a') l a
  | [], a, _, h => h
  | o :: l, a, hB, h => by
    simp only [movesB, List.all_cons, Bool.and_eq_true] at hB
    obtain ⟨⟨hmv, hg⟩, hB2⟩ := hB
    have hw : Region.wanted o (yielded ops a.tmps) = true := by
      unfold Region.wanted
      cases hgg : o.guard with
      | none => rfl
      | some x => rw [hgg] at hg; cases hg
    have ho : ∃ x, o.op = .move x := by
      revert hmv
      cases o.op <;> simp
    obtain ⟨x, hx⟩ := ho
    rw [List.cons_append] at h
    unfold wpQuiet at h
    rw [if_pos hw] at h
    obtain ⟨v, h1, h2⟩ := h
    have h3 := h1 w hS
    unfold Oper.quietAt at h3
    have hr : ∀ w, (execOp a.eval o).run P w = .ok (.value (a.eval x)) w := fun w => BigFrame.run_move x hx w
    rw [hr] at h3
    obtain ⟨_, h4⟩ := h3
    exact ⟨v, .inl ⟨hw, fun w => by rw [hr]; rw [h4]⟩, yld_of_quiet hS l2 l _ hB2 h2⟩
/-- What is to be checked: m copies ahead, reads up to n, the operation n, the tail. -/
def keepB (md : Region.Mode) (ops : Array Oper) (m n : Nat) : Bool :=
  let r := yldB md ops m 0 (Array.replicate ops.size false)
  Region.noSelect ops && decide (n + 1 < ops.size) && decide (m ≤ n) && r.1 && sinkL md ops (n + 1) r.2 && Region.chainB md ops (n + 1) && lexM md ops (ops.size - (n + 1)) (n - m) m r.2
theorem wp_region_keep {id : Nat} {a : Act} {w : World} {l : List Oper} (S : World → Prop) (m n : Nat) (hm : P.follows .mixedOrders = true) (hB : keepB .any l.toArray m n = true) (hV : movesB (l.take m) = true) (hR : ((l.drop m).take (n - m)).all readB = true)
    (hQ : ∀ c a d v w, Q (.panic c) (a.put d v) w → Q (.panic c) a w) (hS : S w.drew)
    (h : wpQuiet P l.toArray S (fun a'' => wpList P l.toArray (Exit.then (fun a' w' => S w' ∧ wpList P l.toArray Q (l.drop (n + 1)) a' w') Q) ((l.drop n).take 1) a'' w.drew) (l.take n) a) : (Code.region id l.toArray true).wp P Q a w := by
  simp only [keepB, Bool.and_eq_true, decide_eq_true_eq] at hB
  obtain ⟨⟨⟨⟨⟨⟨hsel, hn⟩, hmn⟩, hy⟩, hs⟩, hc⟩, hlex⟩ := hB
  have hn2 : n + 1 < l.length := by simpa using hn
  have hlm : (l.take m).length = m := by simp; omega
  have hlh : ((l.drop m).take (n - m)).length = n - m := by simp; omega
  have hld : (l.drop (n + 1)).length = l.toArray.size - (n + 1) := by simp
  have inv0 : HeadInv .any l.toArray (n + 1) (Array.replicate l.toArray.size false) :=
    ⟨by simp, fun j oj _ q => (by rw [getD_replicate_false] at q; cases q), fun t _ ht => getD_in (by simpa using ht) (getD_replicate_false _ _)⟩
  have inv1 := yldB_head m 0 _ (by omega) inv0 hy
  have e : l.take m ++ (l.drop m).take (n - m) = l.take n := by
    rw [← List.drop_take]
    have : l.take m = (l.take n).take m := by rw [List.take_take, Nat.min_eq_left hmn]
    rw [this, List.take_append_drop]
  rw [← e] at h
  have hop : l.toArray[n]? = some (l[n]'(by omega)) := by simp
  have h1 : (l.drop n).take 1 = [l[n]'(by omega)] := by rw [List.drop_eq_getElem_cons (by omega)]; rfl
  refine wp_region_any hm ?_
  have key := wpAny_yld (md := .any) (Q := Q) (w := w.drew) (g := n - m + 1 + (l.toArray.size - (n + 1))) hsel hQ (l.take m) 0 (Array.replicate l.toArray.size false) a
    (fun j hj => by rw [hlm] at hj; simp [hj]) (by rw [hlm]; exact hy) (fun a' ha' => by
      rw [hlm]
      have H := headM (md := .any) (g := l.toArray.size - (n + 1)) (n := n) (T := fun a' w' => wpList P l.toArray Q (l.drop (n + 1)) a' w') hsel hQ hs hc hn hS
        (fun a ha => wpOp_of_list hop (by rw [← h1]; exact ha)) ((l.drop m).take (n - m)) m _ a' (fun j hj => by
          rw [hlh] at hj
          simp [hj]) (by rw [hlh]; omega) inv1 (fun _ q => q) (by rw [hlh]; exact hlex) hR ha'
      have := wpAny_of_M (g := l.toArray.size - (n + 1)) (fun listed a' w' hL => by
        have := wpAny_of_seq (md := .any) (Q' := Q) (l.drop (n + 1)) (n + 1) listed a' w' (fun j => by simp [List.getElem?_drop]) (by rw [hld]; exact hL.1) hL.2
        rwa [hld] at this) _ _ _ _ H
      rwa [hlh] at this) (yld_of_quiet hS _ _ _ hV h)
  rw [hlm, show n - m + 1 + (l.toArray.size - (n + 1)) + m = l.toArray.size by omega] at key
  exact key
end
end Go.Proofs.YthikgdogfkjioaaGreatDoor
namespace Go.Proofs.YthikgdogfkjioaaGreatDoor
open Go
set_option linter.unusedVariables false
set_option linter.unusedSimpArgs false

section
variable {P : Program} {ops : Array Oper} {md : Region.Mode} {Q : Exit → Act → World → Prop} {S : World → Prop}
/-- Whatever comes up leaves S. -/
def wpAnyS (P : Program) (md : Region.Mode) (ops : Array Oper) (Q : Exit → Act → World → Prop) (S : World → Prop) : Nat → Array Bool → Act → World → Prop
  | 0, listed, a, w => Region.ready md ops listed = [] ∧ Q .normal a w
  | f + 1, listed, a, w => Region.ready md ops listed ≠ [] ∧ ∀ i ∈ Region.ready md ops listed, wpOp P ops Q i (fun a' w' => S w' ∧ wpAnyS P md ops Q S f (listed.setIfInBounds i true) a' w') a w
theorem wpAny_of_S : ∀ (f : Nat) (listed : Array Bool) (a : Act) (w : World), wpAnyS P md ops Q S f listed a w → wpAny P md ops Q f listed a w
  | 0, listed, a, w, h => h
  | f + 1, listed, a, w, h => ⟨fun h0 => absurd h0 h.1, fun i hi => wpOp_mono (fun a' w' h' => wpAny_of_S f _ a' w' h'.2) (h.2 i hi)⟩
theorem firstS {i : Nat} {oi : Oper} {v : Value} (hi : ops[i]? = some oi) (hsel : ∀ (j : Nat) (o : Oper) cs b, ops[j]? = some o → o.op ≠ .select cs b)
    (hQ : ∀ c a d v w, Q (.panic c) (a.put d v) w → Q (.panic c) a w) :
    ∀ (f : Nat) (listed : Array Bool) (a : Act) (w : World),
      (∀ j oj, ops[j]? = some oj → j ≠ i → listed.getD j true = false → (∀ e ∈ oj.after, Region.binds md e = true → e.on ≠ i) → oi.apart ops oj = true) →
      i ∈ Region.ready md ops listed → YieldsIf P ops S oi v a → S w →
      wpAnyS P md ops Q S f (listed.setIfInBounds i true) (a.put oi.dst v) w → wpAnyS P md ops Q S (f + 1) listed a w := by
  intro f
  induction f with
  | zero =>
    intro listed a w _ hr hy hS H
    refine ⟨fun h => (by rw [h] at hr; cases hr), fun j hj => ?_⟩
    by_cases hji : j = i
    · subst hji; exact hy.wpOp hi hS ⟨hS, H⟩
    · have := ready_mono hj hji
      rw [H.1] at this
      cases this
  | succ f ih =>
    intro listed a w hfree hr hy hS H
    have hun := (mem_ready.1 hr).1
    refine ⟨fun h => (by rw [h] at hr; cases hr), fun j hj => ?_⟩
    by_cases hji : j = i
    · subst hji; exact hy.wpOp hi hS ⟨hS, H⟩
    · obtain ⟨hjun, oj, hoj, hall⟩ := mem_ready.1 hj
      have hno : ∀ e ∈ oj.after, Region.binds md e = true → e.on ≠ i := fun e he hb q => by
        have := hall e he hb
        rw [q, getD_both hun] at this
        cases this
      have h2 := wpOp_putIf hoj (hfree j oj hoj hji hjun hno) (fun cs b => hsel i oi cs b hi) (fun cs b => hsel j oj cs b hoj) (fun c a w q => hQ c a _ _ w q) hy (H.2 j (ready_mono hj hji))
      refine wpOp_mono (fun a' w' h3 => ⟨h3.2.1, ih (listed.setIfInBounds j true) a' w' (fun k ok hk hki hku hkn => hfree k ok hk hki ?_ hkn) (ready_mono hr (Ne.symm hji)) h3.1 h3.2.1 ?_⟩) h2
      · by_cases q : j = k
        · subst q; exact hjun
        · rw [getD_set_ne true q] at hku; exact hku
      · rw [Array.setIfInBounds_comm _ _ hji]; exact h3.2.2
/-- The operations from k on, f of them, only answer values, and may be taken now. -/
def lexS (md : Region.Mode) (ops : Array Oper) : Nat → Nat → Array Bool → Bool
  | 0, _, _ => true
  | f + 1, k, listed => (Region.ready md ops listed).contains k && Region.free md ops listed k && lexS md ops f (k + 1) (listed.setIfInBounds k true)
def setsB : Nat → Nat → Array Bool → Array Bool
  | 0, _, listed => listed
  | f + 1, k, listed => setsB f (k + 1) (listed.setIfInBounds k true)
theorem batchS {K : Act → Prop} {w : World} {g : Nat} (hsel : Region.noSelect ops = true) (hQ : ∀ c a d v w, Q (.panic c) (a.put d v) w → Q (.panic c) a w) (hS : S w) :
    ∀ (l : List Oper) (k : Nat) (listed : Array Bool) (a : Act), (∀ j, j < l.length → l[j]? = ops[k + j]?) → lexS md ops l.length k listed = true → l.all readB = true →
    (∀ a', K a' → wpAnyS P md ops Q S g (setsB l.length k listed) a' w) → wpQuiet P ops S K l a → wpAnyS P md ops Q S (g + l.length) listed a w
  | [], k, listed, a, _, _, _, hK, h => hK a h
  | o :: l, k, listed, a, hl, hB, hR, hK, h => by
    have h0 : ops[k]? = some o := by simpa using (hl 0 (by simp)).symm
    simp only [List.length_cons, lexS, Bool.and_eq_true] at hB
    simp only [List.all_cons, Bool.and_eq_true] at hR
    obtain ⟨⟨hr, hf⟩, hB2⟩ := hB
    have hr2 : k ∈ Region.ready md ops listed := by simpa using hr
    have key : ∀ (v : Value), YieldsIf P ops S o v a → wpQuiet P ops S K l (a.put o.dst v) → wpAnyS P md ops Q S (g + (l.length + 1)) listed a w := fun v hy h2 =>
      firstS h0 (Region.noSelect_spec hsel) hQ (g + l.length) listed a w (Region.free_spec h0 hf) hr2 hy hS
        (batchS hsel hQ hS l (k + 1) _ _ (fun j hj => by have := hl (j + 1) (by simp; omega); simpa [Nat.add_assoc, Nat.add_comm 1 j] using this) hB2 hR.2 hK h2)
    unfold wpQuiet at h
    split at h
    · rename_i hw
      obtain ⟨v, h1, h2⟩ := h
      exact key v (yieldsIf_of_quiet hR.1 hw h1) h2
    · rename_i hw
      exact key undef (.inr ⟨by simpa using hw, rfl⟩) h
/-- The region. -/
theorem wp_region_S {id : Nat} {a : Act} {w : World} {l : List Oper} (S : World → Prop) (hm : P.follows .mixedOrders = true) (h : wpAnyS P .any l.toArray Q S l.toArray.size (Array.replicate l.toArray.size false) a w.drew) : (Code.region id l.toArray true).wp P Q a w :=
  wp_region_any hm (wpAny_of_S _ _ _ _ h)
/-- The operations from k on, n of them, that only answer values. -/
theorem takeS {w : World} {l : List Oper} {a : Act} {listed : Array Bool} (g k n : Nat) (hB : (Region.noSelect l.toArray && lexS md l.toArray n k listed && decide (k + n ≤ l.length)) = true) (hR : ((l.drop k).take n).all readB = true)
    (hQ : ∀ c a d v w, Q (.panic c) (a.put d v) w → Q (.panic c) a w) (hS : S w) (h : wpQuiet P l.toArray S (fun a' => wpAnyS P md l.toArray Q S g (setsB n k listed) a' w) ((l.drop k).take n) a) : wpAnyS P md l.toArray Q S (g + n) listed a w := by
  simp only [Bool.and_eq_true, decide_eq_true_eq] at hB
  obtain ⟨⟨hsel, hlex⟩, hkn⟩ := hB
  have hlen : ((l.drop k).take n).length = n := by simp; omega
  have := batchS (md := md) (g := g) hsel hQ hS ((l.drop k).take n) k listed a (fun j hj => by
    rw [hlen] at hj
    simp [List.getElem?_take, hj]) (by rw [hlen]; exact hlex) hR (fun a' ha => by rw [hlen]; exact ha) h
  rwa [hlen] at this
/-- One operation alone may come. -/
theorem oneS {w : World} {l : List Oper} {a : Act} {listed : Array Bool} (f i : Nat) (hB : decide (Region.ready md l.toArray listed = [i]) = true) (hi : i < l.length)
    (h : wpList P l.toArray (Exit.then (fun a' w' => S w' ∧ wpAnyS P md l.toArray Q S f (listed.setIfInBounds i true) a' w') Q) ((l.drop i).take 1) a w) : wpAnyS P md l.toArray Q S (f + 1) listed a w := by
  have hr := of_decide_eq_true hB
  refine ⟨by rw [hr]; simp, fun j hj => ?_⟩
  rw [hr, List.mem_singleton] at hj
  subst hj
  have hop : l.toArray[j]? = some (l[j]'hi) := by simp
  refine wpOp_of_list hop ?_
  have h1 : (l.drop j).take 1 = [l[j]'hi] := by rw [List.drop_eq_getElem_cons hi]; rfl
  rw [← h1]
  exact h
/-- One of two may come. -/
theorem twoS {w : World} {l : List Oper} {a : Act} {listed : Array Bool} (f i j : Nat) (hB : decide (Region.ready md l.toArray listed = [i, j]) = true) (hi : i < l.length) (hj : j < l.length)
    (h : wpList P l.toArray (Exit.then (fun a' w' => S w' ∧ wpAnyS P md l.toArray Q S f (listed.setIfInBounds i true) a' w') Q) ((l.drop i).take 1) a w)
    (h' : wpList P l.toArray (Exit.then (fun a' w' => S w' ∧ wpAnyS P md l.toArray Q S f (listed.setIfInBounds j true) a' w') Q) ((l.drop j).take 1) a w) : wpAnyS P md l.toArray Q S (f + 1) listed a w := by
  have hr := of_decide_eq_true hB
  refine ⟨by rw [hr]; simp, fun k hk => ?_⟩
  rw [hr] at hk
  simp only [List.mem_cons, List.not_mem_nil, or_false] at hk
  rcases hk with rfl | rfl
  · have hop : l.toArray[k]? = some (l[k]'hi) := by simp
    refine wpOp_of_list hop ?_
    have h1 : (l.drop k).take 1 = [l[k]'hi] := by rw [List.drop_eq_getElem_cons hi]; rfl
    rw [← h1]
    exact h
  · have hop : l.toArray[k]? = some (l[k]'hj) := by simp
    refine wpOp_of_list hop ?_
    have h1 : (l.drop k).take 1 = [l[k]'hj] := by rw [List.drop_eq_getElem_cons hj]; rfl
    rw [← h1]
    exact h'
/-- None is left. -/
theorem endS {w : World} {a : Act} {listed : Array Bool} (hB : decide (Region.ready md ops listed = []) = true) (h : Q .normal a w) : wpAnyS P md ops Q S 0 listed a w := ⟨of_decide_eq_true hB, h⟩
end
end Go.Proofs.YthikgdogfkjioaaGreatDoor
