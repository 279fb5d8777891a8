/- Plain: the least automaton's building, round by round. No program here. · A region that draws its order, by what holds after any set of its operations. -/
import Derived.Test.YthikgdogfkjioaaGreatDoorQ19
import Derived.Orders
import Derived.Tactics
import Derived.Tactics2
namespace Go.Proofs.YthikgdogfkjioaaGreatDoor
set_option linter.unusedVariables false
set_option linter.unusedSimpArgs false

section
variable {σ : Type} {e : Env σ} {pcs : List (Int × Int)}
theorem build_short : ∀ (f i : Nat) (ord : List σ) (acc : List St), ord[i]? = none → build e pcs f i ord acc = (ord, acc)
  | 0, _, _, _, _ => rfl
  | f + 1, i, ord, acc, h => by rw [build, h]
/-- One round more. -/
theorem build_succ : ∀ (f i : Nat) (ord : List σ) (acc : List St), build e pcs (f + 1) i ord acc = match (build e pcs f i ord acc).1[i + f]? with
    | some s => ((rowOf e pcs s (build e pcs f i ord acc).1).1, (build e pcs f i ord acc).2 ++ [(e.rule s, (rowOf e pcs s (build e pcs f i ord acc).1).2)])
    | none => build e pcs f i ord acc
  | 0, i, ord, acc => by
    rw [build, build, Nat.add_zero]
    cases ord[i]? <;> rfl
  | f + 1, i, ord, acc => by
    rw [build]
    cases h : ord[i]? with
    | none =>
      have h2 : ord[i + (f + 1)]? = none := List.getElem?_eq_none (by have := List.getElem?_eq_none_iff.1 h; omega)
      have e2 : build e pcs (f + 1) i ord acc = (ord, acc) := build_short _ _ _ _ h
      rw [e2, h2]
    | some s =>
      have e2 : build e pcs (f + 1) i ord acc = build e pcs f (i + 1) (rowOf e pcs s ord).1 (acc ++ [(e.rule s, (rowOf e pcs s ord).2)]) := by rw [build, h]
      simp only
      rw [e2, build_succ f (i + 1), show i + 1 + f = i + (f + 1) by omega]
theorem build_round {f : Nat} {ord0 ord : List σ} {acc : List St} {s : σ} (h : build e pcs f 0 ord0 [] = (ord, acc)) (hs : ord[f]? = some s) : build e pcs (f + 1) 0 ord0 [] = ((rowOf e pcs s ord).1, acc ++ [(e.rule s, (rowOf e pcs s ord).2)]) := by
  rw [build_succ, h, Nat.zero_add]
  simp only [hs]
/-- The row so far. -/
def rowK (e : Env σ) (pcs : List (Int × Int)) (s : σ) (ord : List σ) (k : Nat) : List σ × List Mv := (pcs.take k).foldl (stepPc e s) (ord, [])
theorem rowK_zero {s : σ} {ord : List σ} : rowK e pcs s ord 0 = (ord, []) := rfl
theorem rowK_succ {s : σ} {ord : List σ} {k : Nat} (hk : k < pcs.length) : rowK e pcs s ord (k + 1) = stepPc e s (rowK e pcs s ord k) pcs[k] := by
  unfold rowK
  rw [List.take_succ_eq_append_getElem hk, List.foldl_append]; rfl
theorem rowK_all {s : σ} {ord : List σ} {k : Nat} (hk : pcs.length ≤ k) : rowK e pcs s ord k = rowOf e pcs s ord := by unfold rowK rowOf; rw [List.take_of_length_le hk]
end
theorem joinM_nil (lo hi : Int) (j : Nat) : joinM [] lo hi j = [(lo, hi, (j : Int))] := rfl
theorem joinM_yes (l : List Mv) (x y lo hi : Int) (j : Nat) (h : y + 1 = lo) : joinM (l ++ [(x, y, (j : Int))]) lo hi j = l ++ [(x, hi, (j : Int))] := by
  unfold joinM; simp [h]
theorem joinM_no (l : List Mv) (x y z lo hi : Int) (j : Nat) (h : ¬ (z = (j : Int) ∧ y + 1 = lo)) : joinM (l ++ [(x, y, z)]) lo hi j = l ++ [(x, y, z)] ++ [(lo, hi, (j : Int))] := by
  unfold joinM
  simp only [List.getLast?_append, List.getLast?_singleton, Option.some_or]
  rw [if_neg h]
theorem joinM_len (l : List Mv) (lo hi : Int) (j : Nat) : (joinM l lo hi j).length ≤ l.length + 1 := by
  rcases List.eq_nil_or_concat l with rfl | ⟨l0, ⟨x, y, z⟩, rfl⟩
  · simp [joinM_nil]
  · rw [List.concat_eq_append]
    by_cases h : z = (j : Int) ∧ y + 1 = lo
    · obtain ⟨rfl, h2⟩ := h
      rw [joinM_yes _ _ _ _ _ _ h2]; simp
    · rw [joinM_no _ _ _ _ _ _ _ h]; simp
theorem stretches_len : ∀ e : List Int, (stretches e).length = e.length - 1
  | [] => rfl
  | [_] => rfl
  | x :: y :: r => by
    have := stretches_len (y :: r)
    unfold stretches
    simp only [List.length_cons] at this ⊢
    omega
theorem stretches_get : ∀ (e : List Int) (k : Nat) (h : k + 1 < e.length) (h2 : k < (stretches e).length), (stretches e)[k] = (e[k], e[k + 1] - 1)
  | [], k, h, _ => by simp at h
  | [_], k, h, _ => by simp at h
  | x :: y :: r, 0, h, _ => rfl
  | x :: y :: r, k + 1, h, h2 => by
    have := stretches_get (y :: r) k (by simpa using h) (by simpa [stretches] using h2)
    simpa [stretches] using this

/-- The order: states that are not the same, no number twice. -/
structure OrdP (n : Nat) (ord : List Nat) : Prop where
  lt : ∀ s ∈ ord, s < n
  nd : ord.Nodup
theorem OrdP.len {n : Nat} {ord : List Nat} (h : OrdP n ord) : ord.length ≤ n := by
  have := len_le_of_sub h.nd (b := List.range n) (fun x hx => List.mem_range.2 (h.lt x hx))
  rwa [List.length_range] at this
theorem OrdP.one {n : Nat} (h : 0 < n) : OrdP n [0] := ⟨fun s hs => by rw [List.mem_singleton] at hs; omega, by simp⟩
theorem OrdP.step {n : Nat} {e : Env Nat} {s : Nat} {st : List Nat × List Mv} {pc : Int × Int} (h : OrdP n st.1) (ht : e.tg s pc.1 < n) (hr : e.same (e.tg s pc.1) (e.tg s pc.1) = true) : OrdP n (stepPc e s st pc).1 := by
  unfold stepPc
  split
  · split
    · exact h
    · rename_i q
      have hno : e.tg s pc.1 ∉ st.1 := fun hm => q (List.findIdx_lt_length_of_exists ⟨_, hm, hr⟩)
      refine ⟨fun x hx => ?_, ?_⟩
      · rcases List.mem_append.1 hx with hx | hx
        · exact h.lt x hx
        · rw [List.mem_singleton] at hx; subst hx; exact ht
      · refine List.nodup_append.2 ⟨h.nd, by simp, fun a ha b hb => ?_⟩
        rw [List.mem_singleton] at hb
        subst hb
        intro e; subst e; exact hno ha
  · exact h
theorem stepPc_grows {σ : Type} {e : Env σ} {s : σ} {st : List σ × List Mv} {pc : Int × Int} : ∃ x, (stepPc e s st pc).1 = st.1 ++ x := by
  unfold stepPc
  split
  · split
    · exact ⟨[], by simp⟩
    · exact ⟨_, rfl⟩
  · exact ⟨[], by simp⟩
theorem stepPc_len {σ : Type} {e : Env σ} {s : σ} {st : List σ × List Mv} {pc : Int × Int} : (stepPc e s st pc).2.length ≤ st.2.length + 1 := by
  unfold stepPc
  split
  · exact joinM_len _ _ _ _
  · simp
end Go.Proofs.YthikgdogfkjioaaGreatDoor
namespace Go.Proofs.YthikgdogfkjioaaGreatDoor
open Go
set_option linter.unusedVariables false
section
variable {P : Program} {ops : Array Oper} {Q : Exit → Act → World → Prop} {md : Region.Mode}
theorem wpOp_of_list {i : Nat} {o : Oper} {K : Act → World → Prop} {a : Act} {w : World} (ho : ops[i]? = some o) (h : wpList P ops (Exit.then K Q) [o] a w) : wpOp P ops Q i K a w := by
  unfold wpOp
  rw [ho]
  unfold wpList at h
  simp only
  split
  · rename_i hw
    rw [if_pos hw] at h
    rcases h with h | ⟨h1, a0, w0, h2⟩
    · left
      unfold Oper.wp at h ⊢
      generalize (execOp a.eval o).run P w = r at *
      cases r with
      | ok n w' =>
        cases n <;> simp only [Oper.upon] at h ⊢ <;> exact h
      | halt x w' => cases x <;> simp only [Oper.upon] at h ⊢ <;> exact h
    · exact .inr ⟨h1, a0, w0, h2⟩
  · rename_i hw
    rw [if_neg hw] at h
    exact h
/-- All edges that bind lead to what stands ahead. -/
def ordB (md : Region.Mode) (ops : Array Oper) : Bool := (List.range ops.size).all fun i => ((ops[i]?).map (·.after.all fun e => !Region.binds md e || decide (e.on < i))).getD true
theorem ready_nil {listed : Array Bool} (hord : ordB md ops = true) (hsz : listed.size = ops.size) (h : Region.ready md ops listed = []) : ∀ i, i < ops.size → listed.getD i true = true := by
  intro i
  induction i using Nat.strongRecOn with
  | _ i ih =>
    intro hi
    cases hl : listed.getD i true with
    | true => rfl
    | false =>
      exfalso
      have hr : i ∈ Region.ready md ops listed := by
        refine mem_ready.2 ⟨hl, ops[i], Array.getElem?_eq_getElem hi, fun e he hb => ?_⟩
        have h1 := List.all_eq_true.1 hord i (List.mem_range.2 hi)
        rw [Array.getElem?_eq_getElem hi] at h1
        simp only [Option.map_some, Option.getD_some] at h1
        obtain ⟨k, hk, hke⟩ := Array.getElem_of_mem he
        have h2 := Array.all_eq_true.1 h1 k hk
        rw [hke, hb] at h2
        simp at h2
        have h3 := ih e.on h2 (by omega)
        have h4 : e.on < listed.size := by omega
        simp [h4] at h3 ⊢
        exact h3
      rw [h] at hr
      cases hr
def cntB : List Bool → Nat
  | [] => 0
  | b :: l => (if b = true then 0 else 1) + cntB l
theorem cntB_set : ∀ (l : List Bool) (i : Nat), l[i]? = some false → cntB (l.set i true) + 1 = cntB l
  | [], i, h => by simp at h
  | b :: l, 0, h => by
    simp at h
    subst h
    simp [cntB]; omega
  | b :: l, i + 1, h => by
    have := cntB_set l i (by simpa using h)
    simp only [List.set_cons_succ, cntB]
    omega
theorem cntB_zero : ∀ (l : List Bool), cntB l = 0 → ∀ (i : Nat) (b : Bool), l[i]? = some b → b = true
  | [], _, i, b, h => by simp at h
  | c :: l, h0, 0, b, h => by
    simp only [cntB] at h0
    simp at h
    subst h
    cases c
    · simp at h0
    · rfl
  | c :: l, h0, i + 1, b, h => by
    simp only [cntB] at h0
    exact cntB_zero l (by omega) i b (by simpa using h)
theorem wpAny_inv (Inv : Array Bool → Act → World → Prop) (hord : ordB md ops = true) (hsz : ∀ l a w, Inv l a w → l.size = ops.size) (hend : ∀ l a w, Inv l a w → (∀ i, i < ops.size → l.getD i true = true) → Q .normal a w)
    (hs : ∀ l a w i, Inv l a w → i ∈ Region.ready md ops l → wpOp P ops Q i (Inv (l.setIfInBounds i true)) a w) : ∀ n l a w, cntB l.toList ≤ n → Inv l a w → wpAny P md ops Q n l a w
  | 0, l, a, w, hc, h => by
    have hall : ∀ i, l.getD i true = true := fun i => by
      rcases Nat.lt_or_ge i l.size with hi | hi
      · have := cntB_zero l.toList (by omega) i l[i] (by simp [hi])
        simp [hi]; exact this
      · simp [Array.getElem?_eq_none hi]
    have hr : Region.ready md ops l = [] := by
      cases hr : Region.ready md ops l with
      | nil => rfl
      | cons i r =>
        have := (mem_ready.1 (by rw [hr]; exact List.mem_cons_self : i ∈ Region.ready md ops l)).1
        rw [hall i] at this
        cases this
    exact ⟨hr, hend l a w h (fun i _ => hall i)⟩
  | n + 1, l, a, w, hc, h => ⟨fun hr => hend l a w h (ready_nil hord (hsz l a w h) hr), fun i hi => by
    have h1 := hs l a w i h hi
    have hli := (mem_ready.1 hi).1
    have hcn : cntB (l.setIfInBounds i true).toList ≤ n := by
      have hil : i < l.size := by
        rcases Nat.lt_or_ge i l.size with q | q
        · exact q
        · simp [Array.getElem?_eq_none q] at hli
      have := cntB_set l.toList i (by simp [hil] at hli ⊢; exact hli)
      simp
      omega
    have hm : ∀ a w, Inv (l.setIfInBounds i true) a w → wpAny P md ops Q n (l.setIfInBounds i true) a w := fun a w q => wpAny_inv Inv hord hsz hend hs n _ a w hcn q
    unfold wpOp at h1 ⊢
    split
    · rename_i ho; rw [ho] at h1; exact hm _ _ h1
    · rename_i o ho
      rw [ho] at h1
      simp only at h1 ⊢
      split
      · rename_i hw
        rw [if_pos hw] at h1
        rcases h1 with h1 | h1
        · exact .inl (Oper.wp_mono hm h1)
        · exact .inr h1
      · rename_i hw
        rw [if_neg hw] at h1
        exact hm _ _ h1⟩
/-- A region of so many operations, from behind the draw. -/
theorem wp_region_inv {id : Nat} {a : Act} {w : World} (hm : P.follows .mixedOrders = true) (Inv : Array Bool → Act → World → Prop) (hord : ordB .any ops = true) (hsz : ∀ l a w, Inv l a w → l.size = ops.size) (hend : ∀ l a w, Inv l a w → (∀ i, i < ops.size → l.getD i true = true) → Q .normal a w)
    (hs : ∀ l a w i, Inv l a w → i ∈ Region.ready .any ops l → wpOp P ops Q i (Inv (l.setIfInBounds i true)) a w) (h : Inv (Array.replicate ops.size false) a { w with drawn := w.drawn + 1 }) : (Code.region id ops true).wp P Q a w := by
  refine wp_region_any hm (wpAny_inv Inv hord hsz hend hs _ _ _ _ ?_ h)
  have : ∀ n, cntB (List.replicate n false) ≤ n := fun n => by
    induction n with
    | zero => exact Nat.le_refl _
    | succ n ih => rw [List.replicate_succ]; simp only [cntB]; simp; omega
  simpa using this ops.size
end
end Go.Proofs.YthikgdogfkjioaaGreatDoor
