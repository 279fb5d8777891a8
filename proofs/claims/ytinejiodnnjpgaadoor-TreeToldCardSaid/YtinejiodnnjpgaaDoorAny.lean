/- A region that draws its order, by what holds after any set of its operations. -/
import Derived.Orders
import Derived.Tactics
import Derived.Tactics2
namespace Go.Proofs.YtinejiodnnjpgaaDoor
open Go
set_option linter.unusedVariables false
section
variable {P : Program} {ops : Array Oper} {Q : Exit → Act → World → Prop} {md : Region.Mode}
theorem wpOp_of_list {i : Nat} {o : Oper} {K : Act → World → Prop} {a : Act} {w : World} (ho : ops[i]? = some o) (h : wpList P ops (Exit.then K Q) [o] a w) : wpOp P ops Q i K a w := by
  unfold wpOp
  rw [ho]
  unfold wpList at h
  simp only
  split
  · rename_i hw
    rw [if_pos hw] at h
    rcases h with h | ⟨h1, a0, w0, h2⟩
    · left
      unfold Oper.wp at h ⊢
      generalize (execOp a.eval o).run P w = r at *
      cases r with
      | ok n w' =>
        cases n <;> simp only [Oper.upon] at h ⊢ <;> exact h
      | halt x w' => cases x <;> simp only [Oper.upon] at h ⊢ <;> exact h
    · exact .inr ⟨h1, a0, w0, h2⟩
  · rename_i hw
    rw [if_neg hw] at h
    exact h
/-- All edges that bind lead to what stands ahead. -/
def ordB (md : Region.Mode) (ops : Array Oper) : Bool := (List.range ops.size).all fun i => ((ops[i]?).map (·.after.all fun e => !Region.binds md e || decide (e.on < i))).getD true
theorem ready_nil {listed : Array Bool} (hord : ordB md ops = true) (hsz : listed.size = ops.size) (h : Region.ready md ops listed = []) : ∀ i, i < ops.size → listed.getD i true = true := by
  intro i
  induction i using Nat.strongRecOn with
  | _ i ih =>
    intro hi
    cases hl : listed.getD i true with
    | true => rfl
    | false =>
      exfalso
      have hr : i ∈ Region.ready md ops listed := by
        refine mem_ready.2 ⟨hl, ops[i], Array.getElem?_eq_getElem hi, fun e he hb => ?_⟩
        have h1 := List.all_eq_true.1 hord i (List.mem_range.2 hi)
        rw [Array.getElem?_eq_getElem hi] at h1
        simp only [Option.map_some, Option.getD_some] at h1
        obtain ⟨k, hk, hke⟩ := Array.getElem_of_mem he
        have h2 := Array.all_eq_true.1 h1 k hk
        rw [hke, hb] at h2
        simp at h2
        have h3 := ih e.on h2 (by omega)
        have h4 : e.on < listed.size := by omega
        simp [h4] at h3 ⊢
        exact h3
      rw [h] at hr
      cases hr
def cntB : List Bool → Nat
  | [] => 0
  | b :: l => (if b = true then 0 else 1) + cntB l
theorem cntB_set : ∀ (l : List Bool) (i : Nat), l[i]? = some false → cntB (l.set i true) + 1 = cntB l
  | [], i, h => by simp at h
  | b :: l, 0, h => by
    simp at h
    subst h
    simp [cntB]; omega
  | b :: l, i + 1, h => by
    have := cntB_set l i (by simpa using h)
    simp only [List.set_cons_succ, cntB]
    omega
theorem cntB_zero : ∀ (l : List Bool), cntB l = 0 → ∀ (i : Nat) (b : Bool), l[i]? = some b → b = true
  | [], _, i, b, h => by simp at h
  | c :: l, h0, 0, b, h => by
    simp only [cntB] at h0
    simp at h
    subst h
    cases c
    · simp at h0
    · rfl
  | c :: l, h0, i + 1, b, h => by
    simp only [cntB] at h0
    exact cntB_zero l (by omega) i b (by simpa using h)
theorem wpAny_inv (Inv : Array Bool → Act → World → Prop) (hord : ordB md ops = true) (hsz : ∀ l a w, Inv l a w → l.size = ops.size) (hend : ∀ l a w, Inv l a w → (∀ i, i < ops.size → l.getD i true = true) → Q .normal a w)
    (hs : ∀ l a w i, Inv l a w → i ∈ Region.ready md ops l → wpOp P ops Q i (Inv (l.setIfInBounds i true)) a w) : ∀ n l a w, cntB l.toList ≤ n → Inv l a w → wpAny P md ops Q n l a w
  | 0, l, a, w, hc, h => by
    have hall : ∀ i, l.getD i true = true := fun i => by
      rcases Nat.lt_or_ge i l.size with hi | hi
      · have := cntB_zero l.toList (by omega) i l[i] (by simp [hi])
        simp [hi]; exact this
      · simp [Array.getElem?_eq_none hi]
    have hr : Region.ready md ops l = [] := by
      cases hr : Region.ready md ops l with
      | nil => rfl
      | cons i r =>
        have := (mem_ready.1 (by rw [hr]; exact List.mem_cons_self : i ∈ Region.ready md ops l)).1
        rw [hall i] at this
        cases this
    exact ⟨hr, hend l a w h (fun i _ => hall i)⟩
  | n + 1, l, a, w, hc, h => ⟨fun hr => hend l a w h (ready_nil hord (hsz l a w h) hr), fun i hi => by
    have h1 := hs l a w i h hi
    have hli := (mem_ready.1 hi).1
    have hcn : cntB (l.setIfInBounds i true).toList ≤ n := by
      have hil : i < l.size := by
        rcases Nat.lt_or_ge i l.size with q | q
        · exact q
        · simp [Array.getElem?_eq_none q] at hli
      have := cntB_set l.toList i (by simp [hil] at hli ⊢; exact hli)
      simp
      omega
    have hm : ∀ a w, Inv (l.setIfInBounds i true) a w → wpAny P md ops Q n (l.setIfInBounds i true) a w := fun a w q => wpAny_inv Inv hord hsz hend hs n _ a w hcn q
    unfold wpOp at h1 ⊢
    split
    · rename_i ho; rw [ho] at h1; exact hm _ _ h1
    · rename_i o ho
      rw [ho] at h1
      simp only at h1 ⊢
      split
      · rename_i hw
        rw [if_pos hw] at h1
        rcases h1 with h1 | h1
        · exact .inl (Oper.wp_mono hm h1)
        · exact .inr h1
      · rename_i hw
        rw [if_neg hw] at h1
        exact hm _ _ h1⟩
/-- A region of so many operations, from behind the draw. -/
theorem wp_region_inv {id : Nat} {a : Act} {w : World} (hm : P.follows .mixedOrders = true) (Inv : Array Bool → Act → World → Prop) (hord : ordB .any ops = true) (hsz : ∀ l a w, Inv l a w → l.size = ops.size) (hend : ∀ l a w, Inv l a w → (∀ i, i < ops.size → l.getD i true = true) → Q .normal a w)
    (hs : ∀ l a w i, Inv l a w → i ∈ Region.ready .any ops l → wpOp P ops Q i (Inv (l.setIfInBounds i true)) a w) (h : Inv (Array.replicate ops.size false) a { w with drawn := w.drawn + 1 }) : (Code.region id ops true).wp P Q a w := by
  refine wp_region_any hm (wpAny_inv Inv hord hsz hend hs _ _ _ _ ?_ h)
  have : ∀ n, cntB (List.replicate n false) ≤ n := fun n => by
    induction n with
    | zero => exact Nat.le_refl _
    | succ n ih => rw [List.replicate_succ]; simp only [cntB]; simp; omega
  simpa using this ops.size
end
end Go.Proofs.YtinejiodnnjpgaaDoor
