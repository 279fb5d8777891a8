/- A region that draws its order, by what holds after any set of its operations. · A region that draws its order: copies ahead that nobody may wait for; reads; one operation that makes memory and leaves alone what is read; a tail in one order. · The contract of ref1.Point at a byte of ASCII. -/
import Derived.Orders
import Derived.Tactics
import Derived.Tactics2
import Derived.Test.YtaachamblagbhaaGreatDoorQ12
import Derived.OrdersHeld
import Derived.Test.YtaachamblagbhaaGreatDoorProg
import Derived.Test.YtaachamblagbhaaGreatDoorQ7
import Derived.Handy
import Derived.WalkKit
import Derived.WalkSpells
import Derived.WalkLawsBesides
import Derived.Lib.Hide
import Derived.Deep.QuietTactic
import Derived.BigQuiet
namespace Go.Proofs.YtaachamblagbhaaGreatDoor
open Go
set_option linter.unusedVariables false
section
variable {P : Program} {ops : Array Oper} {Q : Exit → Act → World → Prop} {md : Region.Mode}
theorem wpOp_of_list {i : Nat} {o : Oper} {K : Act → World → Prop} {a : Act} {w : World} (ho : ops[i]? = some o) (h : wpList P ops (Exit.then K Q) [o] a w) : wpOp P ops Q i K a w := by
  unfold wpOp
  rw [ho]
  unfold wpList at h
  simp only
  split
  · rename_i hw
    rw [if_pos hw] at h
    rcases h with h | ⟨h1, a0, w0, h2⟩
    · left
      unfold Oper.wp at h ⊢
      generalize (execOp a.eval o).run P w = r at *
      cases r with
      | ok n w' =>
        cases n <;> simp only [Oper.upon] at h ⊢ <;> exact h
      | halt x w' => cases x <;> simp only [Oper.upon] at h ⊢ <;> exact h
    · exact .inr ⟨h1, a0, w0, h2⟩
  · rename_i hw
    rw [if_neg hw] at h
    exact h
/-- All edges that bind lead to what stands ahead. -/
def ordB (md : Region.Mode) (ops : Array Oper) : Bool := (List.range ops.size).all fun i => ((ops[i]?).map (·.after.all fun e => !Region.binds md e || decide (e.on < i))).getD true
theorem ready_nil {listed : Array Bool} (hord : ordB md ops = true) (hsz : listed.size = ops.size) (h : Region.ready md ops listed = []) : ∀ i, i < ops.size → listed.getD i true = true := by
  intro i
  induction i using Nat.strongRecOn with
  | _ i ih =>
    intro hi
    cases hl : listed.getD i true with
    | true => rfl
    | false =>
      exfalso
      have hr : i ∈ Region.ready md ops listed := by
        refine mem_ready.2 ⟨hl, ops[i], Array.getElem?_eq_getElem hi, fun e he hb => ?_⟩
        have h1 := List.all_eq_true.1 hord i (List.mem_range.2 hi)
        rw [Array.getElem?_eq_getElem hi] at h1
        simp only [Option.map_some, Option.getD_some] at h1
        obtain ⟨k, hk, hke⟩ := Array.getElem_of_mem he
        have h2 := Array.all_eq_true.1 h1 k hk
        rw [hke, hb] at h2
        simp at h2
        have h3 := ih e.on h2 (by omega)
        have h4 : e.on < listed.size := by omega
        simp [h4] at h3 ⊢
        exact h3
      rw [h] at hr
      cases hr
def cntB : List Bool → Nat
  | [] => 0
  | b :: l => (if b = true then 0 else 1) + cntB l
theorem cntB_set : ∀ (l : List Bool) (i : Nat), l[i]? = some false → cntB (l.set i true) + 1 = cntB l
  | [], i, h => by simp at h
  | b :: l, 0, h => by
    simp at h
    subst h
    simp [cntB]; omega
  | b :: l, i + 1, h => by
    have := cntB_set l i (by simpa using h)
    simp only [List.set_cons_succ, cntB]
    omega
theorem cntB_zero : ∀ (l : List Bool), cntB l = 0 → ∀ (i : Nat) (b : Bool), l[i]? = some b → b = true
  | [], _, i, b, h => by simp at h
  | c :: l, h0, 0, b, h => by
    simp only [cntB] at h0
    simp at h
    subst h
    cases c
    · simp at h0
    · rfl
  | c :: l, h0, i + 1, b, h => by
    simp only [cntB] at h0
    exact cntB_zero l (by omega) i b (by simpa using h)
theorem wpAny_inv (Inv : Array Bool → Act → World → Prop) (hord : ordB md ops = true) (hsz : ∀ l a w, Inv l a w → l.size = ops.size) (hend : ∀ l a w, Inv l a w → (∀ i, i < ops.size → l.getD i true = true) → Q .normal a w)
    (hs : ∀ l a w i, Inv l a w → i ∈ Region.ready md ops l → wpOp P ops Q i (Inv (l.setIfInBounds i true)) a w) : ∀ n l a w, cntB l.toList ≤ n → Inv l a w → wpAny P md ops Q n l a w
  | 0, l, a, w, hc, h => by
    have hall : ∀ i, l.getD i true = true := fun i => by
      rcases Nat.lt_or_ge i l.size with hi | hi
      · have := cntB_zero l.toList (by omega) i l[i] (by simp [hi])
        simp [hi]; exact this
      · simp [Array.getElem?_eq_none hi]
    have hr : Region.ready md ops l = [] := by
      cases hr : Region.ready md ops l with
      | nil => rfl
      | cons i r =>
        have := (mem_ready.1 (by rw [hr]; exact List.mem_cons_self : i ∈ Region.ready md ops l)).1
        rw [hall i] at this
        cases this
    exact ⟨hr, hend l a w h (fun i _ => hall i)⟩
  | n + 1, l, a, w, hc, h => ⟨fun hr => hend l a w h (ready_nil hord (hsz l a w h) hr), fun i hi => by
    have h1 := hs l a w i h hi
    have hli := (mem_ready.1 hi).1
    have hcn : cntB (l.setIfInBounds i true).toList ≤ n := by
      have hil : i < l.size := by
        rcases Nat.lt_or_ge i l.size with q | q
        · exact q
        · simp [Array.getElem?_eq_none q] at hli
      have := cntB_set l.toList i (by simp [hil] at hli ⊢; exact hli)
      simp
      omega
    have hm : ∀ a w, Inv (l.setIfInBounds i true) a w → wpAny P md ops Q n (l.setIfInBounds i true) a w := fun a w q => wpAny_inv Inv hord hsz hend hs n _ a w hcn q
    unfold wpOp at h1 ⊢
    split
    · rename_i ho; rw [ho] at h1; exact hm _ _ h1
    · rename_i o ho
      rw [ho] at h1
      simp only at h1 ⊢
      split
      · rename_i hw
        rw [if_pos hw] at h1
        rcases h1 with h1 | h1
        · exact .inl (Oper.wp_mono hm h1)
        · exact .inr h1
      · rename_i hw
        rw [if_neg hw] at h1
        exact hm _ _ h1⟩
/-- A region of so many operations, from behind the draw. -/
theorem wp_region_inv {id : Nat} {a : Act} {w : World} (hm : P.follows .mixedOrders = true) (Inv : Array Bool → Act → World → Prop) (hord : ordB .any ops = true) (hsz : ∀ l a w, Inv l a w → l.size = ops.size) (hend : ∀ l a w, Inv l a w → (∀ i, i < ops.size → l.getD i true = true) → Q .normal a w)
    (hs : ∀ l a w i, Inv l a w → i ∈ Region.ready .any ops l → wpOp P ops Q i (Inv (l.setIfInBounds i true)) a w) (h : Inv (Array.replicate ops.size false) a { w with drawn := w.drawn + 1 }) : (Code.region id ops true).wp P Q a w := by
  refine wp_region_any hm (wpAny_inv Inv hord hsz hend hs _ _ _ _ ?_ h)
  have : ∀ n, cntB (List.replicate n false) ≤ n := fun n => by
    induction n with
    | zero => exact Nat.le_refl _
    | succ n ih => rw [List.replicate_succ]; simp only [cntB]; simp; omega
  simpa using this ops.size
end
end Go.Proofs.YtaachamblagbhaaGreatDoor
namespace Go.Proofs.YtaachamblagbhaaGreatDoor
open Go
set_option linter.unusedVariables false
set_option linter.unusedSimpArgs false

section
variable {P : Program} {ops : Array Oper} {md : Region.Mode} {Q : Exit → Act → World → Prop} {S : World → Prop}
/-- Operations that answer a value, and no call. -/
def readB (o : Oper) : Bool :=
  match o.op with
  | .move _ | .assign _ | .pick .. | .binOp .. | .unOp .. | .convert .. | .fieldAddr .. | .field .. | .indexAddr .. | .index .. | .load .. | .lookup .. | .extract .. | .nilCheck _ | .build .. | .slice .. | .makeInterface .. => true
  | .call c => match c.callee with | .builtin .len | .builtin .cap | .builtin .min | .builtin .max => true | _ => false
  | _ => false
theorem map_value {s : Sem Value} {w : World} {n : Next} {w' : World} (h : (do pure (Next.value (← s)) : Sem Next).run P w = .ok n w') : ∃ v, n = .value v := by
  simp only [Sem.run_bind] at h
  generalize s.run P w = r at h
  cases r with
  | ok v w2 => simp [Result.andThen] at h; exact ⟨v, h.1.symm⟩
  | halt x w2 => simp [Result.andThen] at h
theorem seq_value {α : Type} {s : Sem α} {f : α → Sem Next} {w : World} {n : Next} {w' : World} (hf : ∀ a w n w', (f a).run P w = .ok n w' → ∃ v, n = .value v) (h : (s >>= f).run P w = .ok n w') : ∃ v, n = .value v := by
  simp only [Sem.run_bind] at h
  generalize s.run P w = r at h
  cases r with
  | ok a w2 => exact hf a w2 n w' h
  | halt x w2 => simp [Result.andThen] at h
theorem read_value {o : Oper} (h : readB o = true) {ρ : Operand → Value} {w w' : World} {n : Next} (hr : (execOp ρ o).run P w = .ok n w') : ∃ v, n = .value v := by
  unfold execOp at hr
  unfold readB at h
  generalize o.op = op at h hr
  cases op <;> (try simp only [reduceCtorEq] at h) <;> first | exact map_value hr | skip
  case move x => exact ⟨_, by simp at hr; exact hr.1.symm⟩
  case assign x => exact ⟨_, by simp at hr; exact hr.1.symm⟩
  case call c =>
    obtain ⟨callee, args, ats⟩ := c
    cases callee with
    | builtin b =>
      cases b <;> simp only [reduceCtorEq, Bool.false_eq_true] at h <;> (simp only [resolve, Sem.run_bind, Sem.run_pure, Result.andThen, invoke, builtin] at hr; exact map_value (by simpa [Sem.run_bind, Result.andThen] using hr))
    | invoke r n => simp at h
    | value f => simp at h
  case pick c a b =>
    simp only [Sem.run_bind] at hr
    generalize (asBool (ρ c)).run P w = r at hr
    cases r with
    | ok v w2 => simp [Result.andThen] at hr; exact ⟨_, hr.1.symm⟩
    | halt x w2 => simp [Result.andThen] at hr
  case nilCheck x =>
    simp only at hr
    split at hr
    · simp [runtimePanic] at hr
    · simp [runtimePanic] at hr
    · simp [runtimePanic] at hr
    · split at hr
      · simp [runtimePanic] at hr
      · refine seq_value (fun a w n w' hr => ?_) hr
        refine seq_value (fun a w n w' hr => ?_) hr
        split at hr
        · refine seq_value (fun a w n w' hr => ?_) hr
          simp at hr; exact ⟨_, hr.1.symm⟩
        · simp at hr; exact ⟨_, hr.1.symm⟩
      · simp at hr; exact ⟨_, hr.1.symm⟩
    · simp at hr; exact ⟨_, hr.1.symm⟩
/-- As long as an operation ahead is left, whatever comes up leaves S. -/
def wpAnyM (P : Program) (md : Region.Mode) (ops : Array Oper) (Q : Exit → Act → World → Prop) (S : World → Prop) (n : Nat) (L : Array Bool → Act → World → Prop) : Nat → Array Bool → Act → World → Prop
  | 0, listed, a, w => L listed a w
  | f + 1, listed, a, w => Region.ready md ops listed ≠ [] ∧ ∀ i ∈ Region.ready md ops listed, i < n ∧ wpOp P ops Q i (fun a' w' => S w' ∧ wpAnyM P md ops Q S n L f (listed.setIfInBounds i true) a' w') a w
theorem wpAny_of_M {n g : Nat} {L : Array Bool → Act → World → Prop} (hL : ∀ listed a w, L listed a w → wpAny P md ops Q g listed a w) :
    ∀ (f : Nat) (listed : Array Bool) (a : Act) (w : World), wpAnyM P md ops Q S n L f listed a w → wpAny P md ops Q (f + g) listed a w
  | 0, listed, a, w, h => by rw [Nat.zero_add]; exact hL _ _ _ h
  | f + 1, listed, a, w, h => by
    rw [show f + 1 + g = (f + g) + 1 by omega]
    exact ⟨fun h0 => absurd h0 h.1, fun i hi => wpOp_mono (fun a' w' h' => wpAny_of_M hL f _ a' w' h'.2) (h.2 i hi).2⟩
theorem firstM {n i : Nat} {oi : Oper} {v : Value} {L0 : Array Bool} {L : Array Bool → Act → World → Prop} (hi : ops[i]? = some oi) (hsel : ∀ (j : Nat) (o : Oper) cs b, ops[j]? = some o → o.op ≠ .select cs b)
    (hQ : ∀ c a d v w, Q (.panic c) (a.put d v) w → Q (.panic c) a w)
    (hs : sinkL md ops n L0 = true) (hc : Region.chainB md ops n = true) (hn : n < ops.size) (hin : i < n)
    (hdone : ∀ listed a w, L listed a w → ∀ j ∈ Region.ready md ops listed, n ≤ j) :
    ∀ (f : Nat) (listed : Array Bool) (a : Act) (w : World), HeadInv md ops n listed → Over L0 listed →
      (∀ j oj, ops[j]? = some oj → j ≠ i → listed.getD j true = false → (∀ e ∈ oj.after, Region.binds md e = true → e.on ≠ i) → oi.apart ops oj = true) →
      i ∈ Region.ready md ops listed → YieldsIf P ops S oi v a → S w →
      wpAnyM P md ops Q S n L f (listed.setIfInBounds i true) (a.put oi.dst v) w → wpAnyM P md ops Q S n L (f + 1) listed a w := by
  intro f
  induction f with
  | zero =>
    intro listed a w inv ho _ hr hy hS H
    have hun := (mem_ready.1 hr).1
    refine ⟨fun h => (by rw [h] at hr; cases hr), fun j hj => ?_⟩
    have hjn : j < n := Nat.lt_of_not_le fun q => tailL hs hc hn inv ho _ i (Nat.le_refl _) hin hun j q hj
    by_cases hji : j = i
    · subst hji; exact ⟨hjn, hy.wpOp hi hS ⟨hS, H⟩⟩
    · have := hdone _ _ _ H j (ready_mono hj hji); omega
  | succ f ih =>
    intro listed a w inv ho hfree hr hy hS H
    have hun := (mem_ready.1 hr).1
    refine ⟨fun h => (by rw [h] at hr; cases hr), fun j hj => ?_⟩
    have hjn : j < n := Nat.lt_of_not_le fun q => tailL hs hc hn inv ho _ i (Nat.le_refl _) hin hun j q hj
    by_cases hji : j = i
    · subst hji; exact ⟨hjn, hy.wpOp hi hS ⟨hS, H⟩⟩
    · obtain ⟨hjun, oj, hoj, hall⟩ := mem_ready.1 hj
      have hno : ∀ e ∈ oj.after, Region.binds md e = true → e.on ≠ i := fun e he hb q => by
        have := hall e he hb
        rw [q, getD_both hun] at this
        cases this
      have h2 := wpOp_putIf hoj (hfree j oj hoj hji hjun hno) (fun cs b => hsel i oi cs b hi) (fun cs b => hsel j oj cs b hoj) (fun c a w q => hQ c a _ _ w q) hy (H.2 j (ready_mono hj hji)).2
      refine ⟨hjn, wpOp_mono (fun a' w' h3 => ⟨h3.2.1, ih (listed.setIfInBounds j true) a' w' (inv.set hj hjn) (ho.set j) (fun k ok hk hki hku hkn => hfree k ok hk hki ?_ hkn) (ready_mono hr (Ne.symm hji)) h3.1 h3.2.1 ?_⟩) h2⟩
      · by_cases q : j = k
        · subst q; exact hjun
        · rw [getD_set_ne true q] at hku; exact hku
      · rw [Array.setIfInBounds_comm _ _ hji]; exact h3.2.2
def lexM (md : Region.Mode) (ops : Array Oper) (g : Nat) : Nat → Nat → Array Bool → Bool
  | 0, k, listed => decide (Region.ready md ops listed = [k]) && Region.seqB md ops g (k + 1) (listed.setIfInBounds k true)
  | f + 1, k, listed => (Region.ready md ops listed).contains k && Region.free md ops listed k && lexM md ops g f (k + 1) (listed.setIfInBounds k true)
theorem yieldsIf_of_quiet {o : Oper} {a : Act} {v : Value} (hr : readB o = true) (hw : Region.wanted o (yielded ops a.tmps) = true) (h : ∀ w, S w → o.quietAt P a S w v) : YieldsIf P ops S o v a :=
  .inl ⟨hw, fun w hS => by
    have h1 := h w hS
    unfold Oper.quietAt at h1
    generalize hx : (execOp a.eval o).run P w = r at h1
    cases r with
    | halt x w' => exact h1.elim
    | ok n w' =>
      obtain ⟨u, rfl⟩ := read_value hr hx
      obtain ⟨rfl, rfl⟩ := h1
      rfl⟩
theorem headM {n g : Nat} {L0 : Array Bool} {K : Act → Prop} {T : Act → World → Prop} {w : World} (hsel : Region.noSelect ops = true) (hQ : ∀ c a d v w, Q (.panic c) (a.put d v) w → Q (.panic c) a w)
    (hs : sinkL md ops (n + 1) L0 = true) (hc : Region.chainB md ops (n + 1) = true) (hn : n + 1 < ops.size) (hS : S w) (hK : ∀ a, K a → wpOp P ops Q n (fun a' w' => S w' ∧ T a' w') a w) :
    ∀ (l : List Oper) (k : Nat) (listed : Array Bool) (a : Act), (∀ j, j < l.length → l[j]? = ops[k + j]?) → k + l.length = n → HeadInv md ops (n + 1) listed → Over L0 listed →
    lexM md ops g l.length k listed = true → l.all readB = true → wpQuiet P ops S K l a →
    wpAnyM P md ops Q S (n + 1) (fun listed' a' w' => Region.seqB md ops g (n + 1) listed' = true ∧ T a' w') (l.length + 1) listed a w
  | [], k, listed, a, _, hk, _, _, hB, _, h => by
    obtain rfl : k = n := by simpa using hk
    simp only [List.length_nil, lexM, Bool.and_eq_true, decide_eq_true_eq] at hB
    refine ⟨fun h0 => (by rw [hB.1] at h0; cases h0), fun i hi => ?_⟩
    rw [hB.1, List.mem_singleton] at hi
    subst hi
    exact ⟨Nat.lt_succ_self _, wpOp_mono (fun a' w' h2 => ⟨h2.1, hB.2, h2.2⟩) (hK a h)⟩
  | o :: l, k, listed, a, hl, hk, inv, ho, hB, hR, h => by
    have h0 : ops[k]? = some o := by simpa using (hl 0 (by simp)).symm
    simp only [List.length_cons, lexM, Bool.and_eq_true] at hB
    simp only [List.all_cons, Bool.and_eq_true] at hR
    obtain ⟨⟨hr, hf⟩, hB2⟩ := hB
    have hkn : k < n + 1 := by simp only [List.length_cons] at hk; omega
    have hr2 : k ∈ Region.ready md ops listed := by simpa using hr
    have key : ∀ (v : Value), YieldsIf P ops S o v a → wpQuiet P ops S K l (a.put o.dst v) → wpAnyM P md ops Q S (n + 1) (fun listed' a' w' => Region.seqB md ops g (n + 1) listed' = true ∧ T a' w') (l.length + 1 + 1) listed a w := fun v hy h2 =>
      firstM h0 (Region.noSelect_spec hsel) hQ hs hc hn hkn (fun _ _ _ hL => seqB_ready hL.1) (l.length + 1) listed a w inv ho (Region.free_spec h0 hf) hr2 hy hS
        (headM hsel hQ hs hc hn hS hK l (k + 1) _ _ (fun j hj => by have := hl (j + 1) (by simp; omega); simpa [Nat.add_assoc, Nat.add_comm 1 j] using this) (by simp only [List.length_cons] at hk; omega) (inv.set hr2 hkn) (ho.set k) hB2 hR.2 h2)
    unfold wpQuiet at h
    split at h
    · rename_i hw
      obtain ⟨v, h1, h2⟩ := h
      exact key v (yieldsIf_of_quiet hR.1 hw h1) h2
    · rename_i hw
      exact key undef (.inr ⟨by simpa using hw, rfl⟩) h
theorem yld_of_quiet {K : Act → Prop} {w : World} (hS : S w) (l2 : List Oper) : ∀ (l : List Oper) (a : Act), movesB l = true → wpQuiet P ops S K (l ++ l2) a → wpYld P ops (fun a' => wpQuiet P ops S K l2 a') l a
  | [], a, _, h => h
  | o :: l, a, hB, h => by
    simp only [movesB, List.all_cons, Bool.and_eq_true] at hB
    obtain ⟨⟨hmv, hg⟩, hB2⟩ := hB
    have hw : Region.wanted o (yielded ops a.tmps) = true := by
      unfold Region.wanted
      cases hgg : o.guard with
      | none => rfl
      | some x => rw [hgg] at hg; cases hg
    have ho : ∃ x, o.op = .move x := by
      revert hmv
      cases o.op <;> simp
    obtain ⟨x, hx⟩ := ho
    rw [List.cons_append] at h
    unfold wpQuiet at h
    rw [if_pos hw] at h
    obtain ⟨v, h1, h2⟩ := h
    have h3 := h1 w hS
    unfold Oper.quietAt at h3
    have hr : ∀ w, (execOp a.eval o).run P w = .ok (.value (a.eval x)) w := fun w => BigFrame.run_move x hx w
    rw [hr] at h3
    obtain ⟨_, h4⟩ := h3
    exact ⟨v, .inl ⟨hw, fun w => by rw [hr]; rw [h4]⟩, yld_of_quiet hS l2 l _ hB2 h2⟩
/-- What is to be checked: m copies ahead, reads up to n, the operation n, the tail. -/
def keepB (md : Region.Mode) (ops : Array Oper) (m n : Nat) : Bool :=
  let r := yldB md ops m 0 (Array.replicate ops.size false)
  Region.noSelect ops && decide (n + 1 < ops.size) && decide (m ≤ n) && r.1 && sinkL md ops (n + 1) r.2 && Region.chainB md ops (n + 1) && lexM md ops (ops.size - (n + 1)) (n - m) m r.2
theorem wp_region_keep {id : Nat} {a : Act} {w : World} {l : List Oper} (S : World → Prop) (m n : Nat) (hm : P.follows .mixedOrders = true) (hB : keepB .any l.toArray m n = true) (hV : movesB (l.take m) = true) (hR : ((l.drop m).take (n - m)).all readB = true)
    (hQ : ∀ c a d v w, Q (.panic c) (a.put d v) w → Q (.panic c) a w) (hS : S w.drew)
    (h : wpQuiet P l.toArray S (fun a'' => wpList P l.toArray (Exit.then (fun a' w' => S w' ∧ wpList P l.toArray Q (l.drop (n + 1)) a' w') Q) ((l.drop n).take 1) a'' w.drew) (l.take n) a) : (Code.region id l.toArray true).wp P Q a w := by
  simp only [keepB, Bool.and_eq_true, decide_eq_true_eq] at hB
  obtain ⟨⟨⟨⟨⟨⟨hsel, hn⟩, hmn⟩, hy⟩, hs⟩, hc⟩, hlex⟩ := hB
  have hn2 : n + 1 < l.length := by simpa using hn
  have hlm : (l.take m).length = m := by simp; omega
  have hlh : ((l.drop m).take (n - m)).length = n - m := by simp; omega
  have hld : (l.drop (n + 1)).length = l.toArray.size - (n + 1) := by simp
  have inv0 : HeadInv .any l.toArray (n + 1) (Array.replicate l.toArray.size false) :=
    ⟨by simp, fun j oj _ q => (by rw [getD_replicate_false] at q; cases q), fun t _ ht => getD_in (by simpa using ht) (getD_replicate_false _ _)⟩
  have inv1 := yldB_head m 0 _ (by omega) inv0 hy
  have e : l.take m ++ (l.drop m).take (n - m) = l.take n := by
    rw [← List.drop_take]
    have : l.take m = (l.take n).take m := by rw [List.take_take, Nat.min_eq_left hmn]
    rw [this, List.take_append_drop]
  rw [← e] at h
  have hop : l.toArray[n]? = some (l[n]'(by omega)) := by simp
  have h1 : (l.drop n).take 1 = [l[n]'(by omega)] := by rw [List.drop_eq_getElem_cons (by omega)]; rfl
  refine wp_region_any hm ?_
  have key := wpAny_yld (md := .any) (Q := Q) (w := w.drew) (g := n - m + 1 + (l.toArray.size - (n + 1))) hsel hQ (l.take m) 0 (Array.replicate l.toArray.size false) a
    (fun j hj => by rw [hlm] at hj; simp [hj]) (by rw [hlm]; exact hy) (fun a' ha' => by
      rw [hlm]
      have H := headM (md := .any) (g := l.toArray.size - (n + 1)) (n := n) (T := fun a' w' => wpList P l.toArray Q (l.drop (n + 1)) a' w') hsel hQ hs hc hn hS
        (fun a ha => wpOp_of_list hop (by rw [← h1]; exact ha)) ((l.drop m).take (n - m)) m _ a' (fun j hj => by
          rw [hlh] at hj
          simp [hj]) (by rw [hlh]; omega) inv1 (fun _ q => q) (by rw [hlh]; exact hlex) hR ha'
      have := wpAny_of_M (g := l.toArray.size - (n + 1)) (fun listed a' w' hL => by
        have := wpAny_of_seq (md := .any) (Q' := Q) (l.drop (n + 1)) (n + 1) listed a' w' (fun j => by simp [List.getElem?_drop]) (by rw [hld]; exact hL.1) hL.2
        rwa [hld] at this) _ _ _ _ H
      rwa [hlh] at this) (yld_of_quiet hS _ _ _ hV h)
  rw [hlm, show n - m + 1 + (l.toArray.size - (n + 1)) + m = l.toArray.size by omega] at key
  exact key
end
end Go.Proofs.YtaachamblagbhaaGreatDoor
namespace Go.Proofs.YtaachamblagbhaaGreatDoor
open Go.RowKit
set_option linter.unusedVariables false
set_option linter.unusedSimpArgs false

theorem point_one (s : ByteArray) (k : Nat) (w : World) (hs : s.size ≤ maxLen) (h : k < s.size) (c : byt s k < 128) :
    Calls Tryz.prog 68 #[.string s, .int .i64 k] w fun e w' => e = .returned (.tuple #[.int .i64 (byt s k), .int .i64 1, .bool true]) ∧ w = w' := by
  have hm := hs
  unfold maxLen at hm
  have hb := byt_get s k h
  have hl := byt_lo s k; have hh := byt_hi s k
  go_enter Tryz.func68, Tryz.ntmps68
  go_wp2_with fail
  go_ret3
  exact ⟨rfl, rfl⟩
end Go.Proofs.YtaachamblagbhaaGreatDoor
