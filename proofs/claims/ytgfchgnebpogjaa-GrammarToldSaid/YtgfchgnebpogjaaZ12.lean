/- A region that draws its order, by what holds after any set of its operations. · A list gone through again and again: a step guarded by what is kept. grammar.settled with it. · Plain: with which terminals sentences begin: after as many passes as there are names nothing is new. No program here. · grammar.firsts: the two lists that its closure holds (a region that draws the order of two calls and two variables). -/
import Derived.Orders
import Derived.Tactics
import Derived.Tactics2
import Derived.Test.YtgfchgnebpogjaaZ6
import Derived.Test.YtgfchgnebpogjaaZ11
namespace Go.Proofs.Ytgfchgnebpogjaa
open Go
set_option linter.unusedVariables false
section
variable {P : Program} {ops : Array Oper} {Q : Exit → Act → World → Prop} {md : Region.Mode}
theorem wpOp_of_list {i : Nat} {o : Oper} {K : Act → World → Prop} {a : Act} {w : World} (ho : ops[i]? = some o) (h : wpList P ops (Exit.then K Q) [o] a w) : wpOp P ops Q i K a w := by
  unfold wpOp
  rw [ho]
  unfold wpList at h
  simp only
  split
  · rename_i hw
    rw [if_pos hw] at h
    rcases h with h | ⟨h1, a0, w0, h2⟩
    · left
      unfold Oper.wp at h ⊢
      generalize (execOp a.eval o).run P w = r at *
      cases r with
      | ok n w' =>
        cases n <;> simp only [Oper.upon] at h ⊢ <;> exact h
      | halt x w' => cases x <;> simp only [Oper.upon] at h ⊢ <;> exact h
    · exact .inr ⟨h1, a0, w0, h2⟩
  · rename_i hw
    rw [if_neg hw] at h
    exact h
/-- All edges that bind lead to what stands ahead. -/
def ordB (md : Region.Mode) (ops : Array Oper) : Bool := (List.range ops.size).all fun i => ((ops[i]?).map (·.after.all fun e => !Region.binds md e || decide (e.on < i))).getD true
theorem ready_nil {listed : Array Bool} (hord : ordB md ops = true) (hsz : listed.size = ops.size) (h : Region.ready md ops listed = []) : ∀ i, i < ops.size → listed.getD i true = true := by
  intro i
  induction i using Nat.strongRecOn with
  | _ i ih =>
    intro hi
    cases hl : listed.getD i true with
    | true => rfl
    | false =>
      exfalso
      have hr : i ∈ Region.ready md ops listed := by
        refine mem_ready.2 ⟨hl, ops[i], Array.getElem?_eq_getElem hi, fun e he hb => ?_⟩
        have h1 := List.all_eq_true.1 hord i (List.mem_range.2 hi)
        rw [Array.getElem?_eq_getElem hi] at h1
        simp only [Option.map_some, Option.getD_some] at h1
        obtain ⟨k, hk, hke⟩ := Array.getElem_of_mem he
        have h2 := Array.all_eq_true.1 h1 k hk
        rw [hke, hb] at h2
        simp at h2
        have h3 := ih e.on h2 (by omega)
        have h4 : e.on < listed.size := by omega
        simp [h4] at h3 ⊢
        exact h3
      rw [h] at hr
      cases hr
def cntB : List Bool → Nat
  | [] => 0
  | b :: l => (if b = true then 0 else 1) + cntB l
theorem cntB_set : ∀ (l : List Bool) (i : Nat), l[i]? = some false → cntB (l.set i true) + 1 = cntB l
  | [], i, h => by simp at h
  | b :: l, 0, h => by
    simp at h
    subst h
    simp [cntB]; omega
  | b :: l, i + 1, h => by
    have := cntB_set l i (by simpa using h)
    simp only [List.set_cons_succ, cntB]
    omega
theorem cntB_zero : ∀ (l : List Bool), cntB l = 0 → ∀ (i : Nat) (b : Bool), l[i]? = some b → b = true
  | [], _, i, b, h => by simp at h
  | c :: l, h0, 0, b, h => by
    simp only [cntB] at h0
    simp at h
    subst h
    cases c
    · simp at h0
    · rfl
  | c :: l, h0, i + 1, b, h => by
    simp only [cntB] at h0
    exact cntB_zero l (by omega) i b (by simpa using h)
theorem wpAny_inv (Inv : Array Bool → Act → World → Prop) (hord : ordB md ops = true) (hsz : ∀ l a w, Inv l a w → l.size = ops.size) (hend : ∀ l a w, Inv l a w → (∀ i, i < ops.size → l.getD i true = true) → Q .normal a w)
    (hs : ∀ l a w i, Inv l a w → i ∈ Region.ready md ops l → wpOp P ops Q i (Inv (l.setIfInBounds i true)) a w) : ∀ n l a w, cntB l.toList ≤ n → Inv l a w → wpAny P md ops Q n l a w
  | 0, l, a, w, hc, h => by
    have hall : ∀ i, l.getD i true = true := fun i => by
      rcases Nat.lt_or_ge i l.size with hi | hi
      · have := cntB_zero l.toList (by omega) i l[i] (by simp [hi])
        simp [hi]; exact this
      · simp [Array.getElem?_eq_none hi]
    have hr : Region.ready md ops l = [] := by
      cases hr : Region.ready md ops l with
      | nil => rfl
      | cons i r =>
        have := (mem_ready.1 (by rw [hr]; exact List.mem_cons_self : i ∈ Region.ready md ops l)).1
        rw [hall i] at this
        cases this
    exact ⟨hr, hend l a w h (fun i _ => hall i)⟩
  | n + 1, l, a, w, hc, h => ⟨fun hr => hend l a w h (ready_nil hord (hsz l a w h) hr), fun i hi => by
    have h1 := hs l a w i h hi
    have hli := (mem_ready.1 hi).1
    have hcn : cntB (l.setIfInBounds i true).toList ≤ n := by
      have hil : i < l.size := by
        rcases Nat.lt_or_ge i l.size with q | q
        · exact q
        · simp [Array.getElem?_eq_none q] at hli
      have := cntB_set l.toList i (by simp [hil] at hli ⊢; exact hli)
      simp
      omega
    have hm : ∀ a w, Inv (l.setIfInBounds i true) a w → wpAny P md ops Q n (l.setIfInBounds i true) a w := fun a w q => wpAny_inv Inv hord hsz hend hs n _ a w hcn q
    unfold wpOp at h1 ⊢
    split
    · rename_i ho; rw [ho] at h1; exact hm _ _ h1
    · rename_i o ho
      rw [ho] at h1
      simp only at h1 ⊢
      split
      · rename_i hw
        rw [if_pos hw] at h1
        rcases h1 with h1 | h1
        · exact .inl (Oper.wp_mono hm h1)
        · exact .inr h1
      · rename_i hw
        rw [if_neg hw] at h1
        exact hm _ _ h1⟩
/-- A region of so many operations, from behind the draw. -/
theorem wp_region_inv {id : Nat} {a : Act} {w : World} (hm : P.follows .mixedOrders = true) (Inv : Array Bool → Act → World → Prop) (hord : ordB .any ops = true) (hsz : ∀ l a w, Inv l a w → l.size = ops.size) (hend : ∀ l a w, Inv l a w → (∀ i, i < ops.size → l.getD i true = true) → Q .normal a w)
    (hs : ∀ l a w i, Inv l a w → i ∈ Region.ready .any ops l → wpOp P ops Q i (Inv (l.setIfInBounds i true)) a w) (h : Inv (Array.replicate ops.size false) a { w with drawn := w.drawn + 1 }) : (Code.region id ops true).wp P Q a w := by
  refine wp_region_any hm (wpAny_inv Inv hord hsz hend hs _ _ _ _ ?_ h)
  have : ∀ n, cntB (List.replicate n false) ≤ n := fun n => by
    induction n with
    | zero => exact Nat.le_refl _
    | succ n ih => rw [List.replicate_succ]; simp only [cntB]; simp; omega
  simpa using this ops.size
end
end Go.Proofs.Ytgfchgnebpogjaa
namespace Go.Proofs.Ytgfchgnebpogjaa
open Go.RowKit BigFrame
set_option linter.unusedVariables false
set_option linter.unusedSimpArgs false

section
variable {σ : Type} (step : Nat → Pr → σ → σ × Bool) (PS : List Pr) (Q : σ → Prop)
open Classical in
noncomputable def gd (k : Nat) (p : Pr) (x : σ) : σ × Bool := if PS[k]? = some p ∧ Q x then step k p x else (x, false)
variable {step} {PS} {Q}
theorem gd_pos {k : Nat} {p : Pr} {x : σ} (h : PS[k]? = some p) (hx : Q x) : gd step PS Q k p x = step k p x := if_pos ⟨h, hx⟩
theorem gd_pass (hQ : ∀ k p y, PS[k]? = some p → Q y → Q (step k p y).1) : ∀ (ps : List Pr) (i : Nat) (x : σ), (∀ k p, ps[k]? = some p → PS[i + k]? = some p) → Q x → passF (gd step PS Q) i ps x = passF step i ps x
  | [], i, x, _, _ => rfl
  | p :: ps, i, x, h, hx => by
    have h0 := h 0 p rfl
    rw [Nat.add_zero] at h0
    rw [passF, passF, gd_pos h0 hx, gd_pass hQ ps (i + 1) _ (fun k q hq => by rw [show i + 1 + k = i + (k + 1) from by omega]; exact h (k + 1) q (by simpa using hq)) (hQ i p x h0 hx)]
theorem gd_rounds (hQ : ∀ k p y, PS[k]? = some p → Q y → Q (step k p y).1) {x : σ} (hx : Q x) : ∀ n, rounds (gd step PS Q) PS n x = rounds step PS n x
  | 0 => rfl
  | n + 1 => by
    rw [rounds, rounds, gd_rounds hQ hx n, gd_pass hQ PS 0 _ (fun k p h => by rwa [Nat.zero_add]) (rounds_keep hQ hx n)]
theorem gd_done (hQ : ∀ k p y, PS[k]? = some p → Q y → Q (step k p y).1) {x : σ} (hx : Q x) (n : Nat) : passF (gd step PS Q) 0 PS (rounds (gd step PS Q) PS n x) = passF step 0 PS (rounds step PS n x) := by
  rw [gd_rounds hQ hx n, gd_pass hQ PS 0 _ (fun k p h => by rwa [Nat.zero_add]) (rounds_keep hQ hx n)]
theorem gd_same (hs : ∀ k p y, PS[k]? = some p → Q y → (step k p y).2 = false → (step k p y).1 = y) (k : Nat) (p : Pr) (x : σ) (h : (gd step PS Q k p x).2 = false) : (gd step PS Q k p x).1 = x := by
  unfold gd at h ⊢
  split
  · rename_i hc
    rw [if_pos hc] at h
    exact hs k p x hc.1 hc.2 h
  · rfl
/-- Where nothing is new, it is the same. -/
theorem gd_agree (hs : ∀ k p y, PS[k]? = some p → Q y → (step k p y).2 = false → (step k p y).1 = y) (hQ : ∀ k p y, PS[k]? = some p → Q y → Q (step k p y).1) {x : σ} (hx : Q x) {n m : Nat} (h1 : (passF step 0 PS (rounds step PS n x)).2 = false) (h2 : (passF step 0 PS (rounds step PS m x)).2 = false) :
    rounds step PS n x = rounds step PS m x := by
  rw [← gd_done hQ hx] at h1 h2
  rw [← gd_rounds hQ hx n, ← gd_rounds hQ hx m]
  have a := (rounds_fixed (gd_same hs) h1 (Nat.le_add_right n m)).1
  have b := (rounds_fixed (gd_same hs) h2 (Nat.le_add_left m n)).1
  rw [← a, ← b]
end
theorem settled3q {σ : Type} (fid : FuncId) (v0 v1 v2 : Nat) (step : Nat → Prd → σ → σ × Bool) (I : World → σ → Prop) (S : Nat → Prop) (Q : σ → Prop) (μ : σ → Nat) (B : Nat) (PS : List Prd) (Ap : Option Addr) (np cp : Nat)
    (hrun : ∀ args w, (callFunc fid args).run Try.prog w = .ok (.enter fid args) w)
    (hsame : ∀ k p y, PS[k]? = some p → Q y → (step k p y).2 = false → (step k p y).1 = y)
    (hQ : ∀ k p y, PS[k]? = some p → Q y → Q (step k p y).1 ∧ ((step k p y).2 = true → μ (step k p y).1 < μ y))
    (hkeep : ∀ w w' x, I w x → Below w.heap.size w w' → I w' x)
    (hS : ∀ k, S k → B ≤ k)
    (hcall : ∀ (k : Nat) (p : Prd) A' n' c' w x, PS[k]? = some p → Q x → I w x → B ≤ w.heap.size → RdI w B A' p.2.1 → p.2.1.length = n' → n' ≤ maxLen →
      Calls Try.prog fid #[.int .i64 k, .agg #[.int .i64 p.1, .slice A' n' c', .int .i64 p.2.2], .pointer (some ⟨v0, 0, none⟩), .pointer (some ⟨v1, 0, none⟩), .pointer (some ⟨v2, 0, none⟩)] w fun e w' => e = .returned (.bool (step k p x).2) ∧ I w' (step k p x).1 ∧ Kp S w w')
    (w : World) (x : σ) (hB : B ≤ w.heap.size) (hP : RdP w B Ap np cp PS) (hx : Q x) (hI : I w x) :
    Calls Try.prog 39 #[.slice Ap np cp, .func (.func fid) #[] #[.pointer (some ⟨v0, 0, none⟩), .pointer (some ⟨v1, 0, none⟩), .pointer (some ⟨v2, 0, none⟩)]] w fun e w' => e = .returned (.tuple #[]) ∧ ∃ n, I w' (rounds step PS n x) ∧ (passF step 0 PS (rounds step PS n x)).2 = false ∧ Kp S w w' := by
  refine (settled3 fid v0 v1 v2 (gd step PS Q) I S Q μ B PS Ap np cp hrun (gd_same hsame) (fun k p y hp hy => by rw [gd_pos hp hy]; exact hQ k p y hp hy) hkeep hS (fun k p A' n' c' w x hp hq => by rw [gd_pos hp hq]; exact hcall k p A' n' c' w x hp hq) w x hB hP hx hI).mono ?_
  rintro e w' ⟨rfl, n, h1, h2, h3⟩
  have hq := fun k p y hp hy => (hQ k p y hp hy).1
  rw [gd_done hq hx] at h2
  rw [gd_rounds hq hx] at h1
  exact ⟨rfl, n, h1, h2, h3⟩

theorem settled5q {σ : Type} (fid : FuncId) (v0 v1 v2 v3 v4 : Nat) (step : Nat → Prd → σ → σ × Bool) (I : World → σ → Prop) (S : Nat → Prop) (Q : σ → Prop) (μ : σ → Nat) (B : Nat) (PS : List Prd) (Ap : Option Addr) (np cp : Nat)
    (hrun : ∀ args w, (callFunc fid args).run Try.prog w = .ok (.enter fid args) w)
    (hsame : ∀ k p y, PS[k]? = some p → Q y → (step k p y).2 = false → (step k p y).1 = y)
    (hQ : ∀ k p y, PS[k]? = some p → Q y → Q (step k p y).1 ∧ ((step k p y).2 = true → μ (step k p y).1 < μ y))
    (hkeep : ∀ w w' x, I w x → Below w.heap.size w w' → I w' x)
    (hS : ∀ k, S k → B ≤ k)
    (hcall : ∀ (k : Nat) (p : Prd) A' n' c' w x, PS[k]? = some p → Q x → I w x → B ≤ w.heap.size → RdI w B A' p.2.1 → p.2.1.length = n' → n' ≤ maxLen →
      Calls Try.prog fid #[.int .i64 k, .agg #[.int .i64 p.1, .slice A' n' c', .int .i64 p.2.2], .pointer (some ⟨v0, 0, none⟩), .pointer (some ⟨v1, 0, none⟩), .pointer (some ⟨v2, 0, none⟩), .pointer (some ⟨v3, 0, none⟩), .pointer (some ⟨v4, 0, none⟩)] w fun e w' => e = .returned (.bool (step k p x).2) ∧ I w' (step k p x).1 ∧ Kp S w w')
    (w : World) (x : σ) (hB : B ≤ w.heap.size) (hP : RdP w B Ap np cp PS) (hx : Q x) (hI : I w x) :
    Calls Try.prog 39 #[.slice Ap np cp, .func (.func fid) #[] #[.pointer (some ⟨v0, 0, none⟩), .pointer (some ⟨v1, 0, none⟩), .pointer (some ⟨v2, 0, none⟩), .pointer (some ⟨v3, 0, none⟩), .pointer (some ⟨v4, 0, none⟩)]] w fun e w' => e = .returned (.tuple #[]) ∧ ∃ n, I w' (rounds step PS n x) ∧ (passF step 0 PS (rounds step PS n x)).2 = false ∧ Kp S w w' := by
  refine (settled5 fid v0 v1 v2 v3 v4 (gd step PS Q) I S Q μ B PS Ap np cp hrun (gd_same hsame) (fun k p y hp hy => by rw [gd_pos hp hy]; exact hQ k p y hp hy) hkeep hS (fun k p A' n' c' w x hp hq => by rw [gd_pos hp hq]; exact hcall k p A' n' c' w x hp hq) w x hB hP hx hI).mono ?_
  rintro e w' ⟨rfl, n, h1, h2, h3⟩
  have hq := fun k p y hp hy => (hQ k p y hp hy).1
  rw [gd_done hq hx] at h2
  rw [gd_rounds hq hx] at h1
  exact ⟨rfl, n, h1, h2, h3⟩
end Go.Proofs.Ytgfchgnebpogjaa
namespace Go.Proofs.Ytgfchgnebpogjaa
set_option linter.unusedVariables false
set_option linter.unusedSimpArgs false

/-- N rows of T. -/
def Rect (N T : Nat) (M : List (List Bool)) : Prop := M.length = N ∧ ∀ k, k < N → (rowB M k).length = T
theorem Rect.set {N T : Nat} {M : List (List Bool)} (h : Rect N T M) {k : Nat} (hk : k < N) {r : List Bool} (hr : r.length = T) : Rect N T (M.set k r) :=
  ⟨by rw [List.length_set]; exact h.1, fun j hj => by
    rw [rowB_set (by rw [h.1]; exact hk)]
    split
    · exact hr
    · exact h.2 j hj⟩
/-- Which productions fit. -/
def FitF (N T : Nat) (p : Pr) : Prop := p.1.toNat < N ∧ ∀ s ∈ p.2.1, (s < 0 → (-1 - s).toNat < N) ∧ s < (T : Int)

/-! ### how much is not yet in -/
def muM (M : List (List Bool)) : Nat := (M.map muB).sum
theorem muM_set : ∀ (M : List (List Bool)) (k : Nat) (r : List Bool), k < M.length → muB r ≤ muB (rowB M k) → muM (M.set k r) ≤ muM M ∧ (muB r < muB (rowB M k) → muM (M.set k r) < muM M)
  | [], k, r, h, _ => by simp at h
  | a :: M, 0, r, _, h => by
    have e : rowB (a :: M) 0 = a := rfl
    rw [e] at h ⊢
    unfold muM
    rw [List.set_cons_zero, List.map_cons, List.map_cons, List.sum_cons, List.sum_cons]
    exact ⟨by omega, fun q => by omega⟩
  | a :: M, k + 1, r, hk, h => by
    have e : rowB (a :: M) (k + 1) = rowB M k := by simp [rowB]
    rw [e] at h ⊢
    have := muM_set M k r (by simpa using hk) h
    unfold muM at this ⊢
    rw [List.set_cons_succ, List.map_cons, List.map_cons, List.sum_cons, List.sum_cons]
    exact ⟨by have := this.1; omega, fun q => by have := this.2 q; omega⟩
theorem muB_or : ∀ (a c : List Bool), a.length = c.length → muB (orB a c) ≤ muB a ∧ (newB a c = true → muB (orB a c) < muB a) ∧ (newB a c = false → orB a c = a)
  | [], [], _ => by simp [orB, newB, muB]
  | [], _ :: _, h => by simp at h
  | _ :: _, [], h => by simp at h
  | x :: a, y :: c, h => by
    obtain ⟨h1, h2, h3⟩ := muB_or a c (by simpa using h)
    have e1 : orB (x :: a) (y :: c) = (x || y) :: orB a c := rfl
    have e2 : newB (x :: a) (y :: c) = ((y && !x) || newB a c) := rfl
    have e3 : ∀ (b : Bool) (l : List Bool), muB (b :: l) = (if b = true then 0 else 1) + muB l := fun b l => by unfold muB; rw [List.map_cons, List.sum_cons]
    rw [e1, e2, e3, e3]
    cases x <;> cases y <;> simp only [Bool.or_false, Bool.or_true, Bool.true_or, Bool.false_or, Bool.and_false, Bool.and_true, Bool.not_true, Bool.not_false, Bool.false_and, Bool.true_and] <;> refine ⟨by simp; omega, fun q => by first | (have := h2 q; simp; omega) | (simp; omega), fun q => by first | rw [h3 q] | cases q⟩
theorem muB_set_le {l : List Bool} {k : Nat} (hk : k < l.length) : muB (l.set k true) ≤ muB l ∧ (bth l k = false → muB (l.set k true) < muB l) ∧ (bth l k = true → l.set k true = l) := by
  refine ⟨?_, muB_set l k hk, fun h => ?_⟩
  · cases h : bth l k
    · exact Nat.le_of_lt (muB_set l k hk h)
    · have : l.set k true = l := by
        apply List.ext_getElem
        · simp
        · intro i h1 h2
          rw [List.getElem_set]
          split
          · rename_i e; subst e; rw [bth_get hk] at h; exact h.symm
          · rfl
      rw [this]; exact Nat.le_refl _
  · apply List.ext_getElem
    · simp
    · intro i h1 h2
      rw [List.getElem_set]
      split
      · rename_i e; subst e; rw [bth_get hk] at h; exact h.symm
      · rfl
theorem set_rowB {M : List (List Bool)} {k : Nat} (hk : k < M.length) : M.set k (rowB M k) = M := by
  apply List.ext_getElem
  · simp
  · intro i h1 h2
    rw [List.getElem_set]
    split
    · rename_i e; subst e; rw [rowB_get hk]
    · rfl

theorem goF_all {N T : Nat} {emp : List Bool} {left : Nat} (hleft : left < N) : ∀ (r : List Int) (M : List (List Bool)) (q : Bool), Rect N T M → (∀ s ∈ r, (s < 0 → (-1 - s).toNat < N) ∧ s < (T : Int)) →
    Rect N T (goF emp left r M q).1 ∧ muM (goF emp left r M q).1 ≤ muM M ∧ ((goF emp left r M q).2 = true → q = true ∨ muM (goF emp left r M q).1 < muM M) ∧ ((goF emp left r M q).2 = false → q = false ∧ (goF emp left r M q).1 = M)
  | [], M, q, hM, _ => ⟨hM, Nat.le_refl _, fun h => .inl h, fun h => ⟨h, rfl⟩⟩
  | s :: r, M, q, hM, hs => by
    have hrow := hM.2 left hleft
    have hlm : left < M.length := by rw [hM.1]; exact hleft
    obtain ⟨hs1, hs2⟩ := hs s (by simp)
    simp only [goF]
    by_cases h0 : 0 ≤ s
    · rw [if_pos h0]
      obtain ⟨m1, m2, m3⟩ := muB_set_le (l := rowB M left) (k := s.toNat) (by omega)
      obtain ⟨n1, n2⟩ := muM_set M left ((rowB M left).set s.toNat true) hlm m1
      refine ⟨hM.set hleft (by rw [List.length_set]; exact hrow), n1, fun h => ?_, fun h => ?_⟩
      · cases hb : bth (rowB M left) s.toNat
        · exact .inr (n2 (m2 hb))
        · rw [hb] at h; simp at h; exact .inl h
      · cases hb : bth (rowB M left) s.toNat
        · rw [hb] at h; simp at h
        · rw [hb] at h; simp at h
          exact ⟨h, by rw [m3 hb, set_rowB hlm]⟩
    · rw [if_neg h0]
      have hnm := hs1 (by omega)
      have hrow2 := hM.2 _ hnm
      obtain ⟨m1, m2, m3⟩ := muB_or (rowB M left) (rowB M (-1 - s).toNat) (by omega)
      obtain ⟨n1, n2⟩ := muM_set M left (orB (rowB M left) (rowB M (-1 - s).toNat)) hlm m1
      have hM' : Rect N T (M.set left (orB (rowB M left) (rowB M (-1 - s).toNat))) := hM.set hleft (orB_len hrow hrow2)
      by_cases he : bth emp (-1 - s).toNat = true
      · rw [if_pos he]
        obtain ⟨i1, i2, i3, i4⟩ := goF_all hleft r _ (newB (rowB M left) (rowB M (-1 - s).toNat) || q) hM' (fun t ht => hs t (List.mem_cons_of_mem _ ht))
        refine ⟨i1, Nat.le_trans i2 n1, fun h => ?_, fun h => ?_⟩
        · rcases i3 h with h | h
          · by_cases hn : newB (rowB M left) (rowB M (-1 - s).toNat) = true
            · exact .inr (Nat.lt_of_le_of_lt i2 (n2 (m2 hn)))
            · simp only [Bool.not_eq_true] at hn
              rw [hn] at h; simp at h; exact .inl h
          · exact .inr (Nat.lt_of_lt_of_le h n1)
        · obtain ⟨j1, j2⟩ := i4 h
          simp only [Bool.or_eq_false_iff] at j1
          exact ⟨j1.2, by rw [j2, m3 j1.1, set_rowB hlm]⟩
      · rw [if_neg he]
        refine ⟨hM', n1, fun h => ?_, fun h => ?_⟩
        · cases hn : newB (rowB M left) (rowB M (-1 - s).toNat)
          · rw [hn] at h; simp at h; exact .inl h
          · exact .inr (n2 (m2 hn))
        · simp only [Bool.or_eq_false_iff] at h
          exact ⟨h.2, by rw [m3 h.1, set_rowB hlm]⟩

section
variable {N T : Nat} {lives emp : List Bool}
theorem stepF_all {i : Nat} {p : Pr} {M : List (List Bool)} (hp : FitF N T p) (hM : Rect N T M) :
    Rect N T (stepF lives emp i p M).1 ∧ muM (stepF lives emp i p M).1 ≤ muM M ∧ ((stepF lives emp i p M).2 = true → muM (stepF lives emp i p M).1 < muM M) ∧ ((stepF lives emp i p M).2 = false → (stepF lives emp i p M).1 = M) := by
  unfold stepF
  split
  · obtain ⟨h1, h2, h3, h4⟩ := goF_all (emp := emp) hp.1 p.2.1 M false hM hp.2
    exact ⟨h1, h2, fun h => by rcases h3 h with q | q; cases q; exact q, fun h => (h4 h).2⟩
  · exact ⟨hM, Nat.le_refl _, (fun h => by cases h), fun _ => rfl⟩

/-! ### one terminal at a time -/
def col (c : Nat) (M : List (List Bool)) : List Bool := M.map (fun r => bth r c)
theorem col_len {c : Nat} {M : List (List Bool)} : (col c M).length = M.length := by unfold col; simp
theorem col_bth {c k : Nat} {M : List (List Bool)} (hk : k < M.length) : bth (col c M) k = bth (rowB M k) c := by
  rw [bth_get (by rw [col_len]; exact hk), rowB_get hk]
  unfold col; simp
theorem col_set {c k : Nat} {M : List (List Bool)} {r : List Bool} : col c (M.set k r) = (col c M).set k (bth r c) := by
  unfold col; rw [List.map_set]
def goC (emp : List Bool) (left c : Nat) : List Int → List Bool → List Bool
  | [], l => l
  | s :: r, l =>
    if 0 ≤ s then l.set left (bth l left || decide (s.toNat = c))
    else if bth emp (-1 - s).toNat = true then goC emp left c r (l.set left (bth l left || bth l (-1 - s).toNat))
    else l.set left (bth l left || bth l (-1 - s).toNat)
theorem goF_col {left c : Nat} (hleft : left < N) (hc : c < T) : ∀ (r : List Int) (M : List (List Bool)) (q : Bool), Rect N T M → (∀ s ∈ r, (s < 0 → (-1 - s).toNat < N) ∧ s < (T : Int)) → col c (goF emp left r M q).1 = goC emp left c r (col c M)
  | [], M, q, hM, _ => rfl
  | s :: r, M, q, hM, hs => by
    have hrow := hM.2 left hleft
    have hlm : left < M.length := by rw [hM.1]; exact hleft
    obtain ⟨hs1, hs2⟩ := hs s (by simp)
    simp only [goF, goC]
    by_cases h0 : 0 ≤ s
    · rw [if_pos h0, if_pos h0, col_set, col_bth hlm, bth_set (by omega)]
      congr 1
      by_cases e : s.toNat = c
      · simp [e]
      · simp [e]
    · rw [if_neg h0, if_neg h0]
      have hnm := hs1 (by omega)
      have hrow2 := hM.2 _ hnm
      have hM' : Rect N T (M.set left (orB (rowB M left) (rowB M (-1 - s).toNat))) := hM.set hleft (orB_len hrow hrow2)
      have e : col c (M.set left (orB (rowB M left) (rowB M (-1 - s).toNat))) = (col c M).set left (bth (col c M) left || bth (col c M) (-1 - s).toNat) := by
        rw [col_set, orB_nth hrow hrow2 hc, col_bth hlm, col_bth (by rw [hM.1]; exact hnm)]
      by_cases he : bth emp (-1 - s).toNat = true
      · rw [if_pos he, if_pos he, goF_col hleft hc r _ _ hM' (fun t ht => hs t (List.mem_cons_of_mem _ ht)), e]
      · rw [if_neg he, if_neg he, e]
def stepC (lives emp : List Bool) (c : Nat) (_ : Nat) (p : Pr) (l : List Bool) : List Bool × Bool :=
  if p.2.1.all (livS lives) = true then (goC emp p.1.toNat c p.2.1 l, decide (goC emp p.1.toNat c p.2.1 l ≠ l)) else (l, false)
theorem set_or {l : List Bool} {k : Nat} {b : Bool} (hk : k < l.length) : muB (l.set k (bth l k || b)) ≤ muB l ∧ (l.set k (bth l k || b) ≠ l → muB (l.set k (bth l k || b)) < muB l) := by
  have same : ∀ v, bth l k = v → l.set k v = l := fun v h => by
    apply List.ext_getElem
    · simp
    · intro i h1 h2
      rw [List.getElem_set]
      split
      · rename_i e; subst e; rw [bth_get hk] at h; exact h.symm
      · rfl
  cases hb : bth l k
  · cases b
    · simp only [Bool.or_false]; rw [same _ hb]; exact ⟨Nat.le_refl _, fun h => absurd rfl h⟩
    · simp only [Bool.or_true]; exact ⟨Nat.le_of_lt (muB_set l k hk hb), fun _ => muB_set l k hk hb⟩
  · simp only [Bool.true_or]; rw [same _ hb]; exact ⟨Nat.le_refl _, fun h => absurd rfl h⟩
theorem goC_mu {left c : Nat} : ∀ (r : List Int) (l : List Bool), left < l.length → (goC emp left c r l).length = l.length ∧ muB (goC emp left c r l) ≤ muB l ∧ (goC emp left c r l ≠ l → muB (goC emp left c r l) < muB l)
  | [], l, _ => ⟨rfl, Nat.le_refl _, fun h => absurd rfl h⟩
  | s :: r, l, hl => by
    simp only [goC]
    by_cases h0 : 0 ≤ s
    · rw [if_pos h0]
      obtain ⟨a, b⟩ := set_or (l := l) (k := left) (b := decide (s.toNat = c)) hl
      exact ⟨by simp, a, b⟩
    · rw [if_neg h0]
      obtain ⟨a, b⟩ := set_or (l := l) (k := left) (b := bth l (-1 - s).toNat) hl
      by_cases he : bth emp (-1 - s).toNat = true
      · rw [if_pos he]
        obtain ⟨i1, i2, i3⟩ := goC_mu r (l.set left (bth l left || bth l (-1 - s).toNat)) (by simpa using hl)
        refine ⟨by rw [i1]; simp, Nat.le_trans i2 a, fun h => ?_⟩
        by_cases e : l.set left (bth l left || bth l (-1 - s).toNat) = l
        · rw [e] at i3 h ⊢; exact i3 h
        · exact Nat.lt_of_le_of_lt i2 (b e)
      · rw [if_neg he]
        exact ⟨by simp, a, b⟩
theorem stepC_same {c : Nat} (i : Nat) (p : Pr) (l : List Bool) (h : (stepC lives emp c i p l).2 = false) : (stepC lives emp c i p l).1 = l := by
  unfold stepC at h ⊢
  split
  · rename_i hc
    rw [if_pos hc] at h
    simpa using h
  · rfl
theorem stepF_col {c i : Nat} {p : Pr} {M : List (List Bool)} (hc : c < T) (hp : FitF N T p) (hM : Rect N T M) : col c (stepF lives emp i p M).1 = (stepC lives emp c i p (col c M)).1 := by
  unfold stepF stepC
  split
  · exact goF_col hp.1 hc p.2.1 M false hM hp.2
  · rfl
theorem passF_col {c : Nat} (hc : c < T) : ∀ (ps : List Pr) (i : Nat) (M : List (List Bool)), (∀ p ∈ ps, FitF N T p) → Rect N T M → Rect N T (passF (stepF lives emp) i ps M).1 ∧ col c (passF (stepF lives emp) i ps M).1 = (passF (stepC lives emp c) i ps (col c M)).1
  | [], i, M, _, hM => ⟨hM, rfl⟩
  | p :: ps, i, M, hp, hM => by
    have hp1 := hp p (by simp)
    obtain ⟨h1, h2⟩ := passF_col hc ps (i + 1) (stepF lives emp i p M).1 (fun q hq => hp q (List.mem_cons_of_mem _ hq)) (stepF_all hp1 hM).1
    refine ⟨h1, ?_⟩
    rw [passF, passF, h2, stepF_col hc hp1 hM]
theorem rounds_col {c : Nat} (hc : c < T) {ps : List Pr} (hp : ∀ p ∈ ps, FitF N T p) {M : List (List Bool)} (hM : Rect N T M) : ∀ n, Rect N T (rounds (stepF lives emp) ps n M) ∧ col c (rounds (stepF lives emp) ps n M) = rounds (stepC lives emp c) ps n (col c M)
  | 0 => ⟨hM, rfl⟩
  | n + 1 => by
    obtain ⟨h1, h2⟩ := rounds_col hc hp hM n
    obtain ⟨h3, h4⟩ := passF_col (lives := lives) (emp := emp) hc ps 0 _ hp h1
    exact ⟨h3, by rw [rounds, rounds, h4, h2]⟩
theorem pass_lowers' : ∀ (ps : List Pr) (i : Nat) (M : List (List Bool)), (∀ p ∈ ps, FitF N T p) → Rect N T M →
    Rect N T (passF (stepF lives emp) i ps M).1 ∧ muM (passF (stepF lives emp) i ps M).1 ≤ muM M ∧ ((passF (stepF lives emp) i ps M).2 = true → muM (passF (stepF lives emp) i ps M).1 < muM M)
  | [], i, M, _, hM => ⟨hM, Nat.le_refl _, fun h => by simp [passF] at h⟩
  | p :: ps, i, M, hp, hM => by
    obtain ⟨s1, s2, s3, s4⟩ := stepF_all (lives := lives) (emp := emp) (i := i) (hp p (by simp)) hM
    obtain ⟨h1, h2, h3⟩ := pass_lowers' ps (i + 1) (stepF lives emp i p M).1 (fun q hq => hp q (List.mem_cons_of_mem _ hq)) s1
    rw [passF]
    refine ⟨h1, Nat.le_trans h2 s2, fun h => ?_⟩
    simp only [Bool.or_eq_true] at h
    rcases h with h | h
    · exact Nat.lt_of_le_of_lt h2 (s3 h)
    · exact Nat.lt_of_lt_of_le (h3 h) s2
theorem rect_ext {M M' : List (List Bool)} (h : Rect N T M) (h' : Rect N T M') (hc : ∀ c, c < T → col c M = col c M') : M = M' := by
  apply List.ext_getElem (by rw [h.1, h'.1])
  intro k h1 h2
  have hk : k < N := by rw [h.1] at h1; exact h1
  have e1 := h.2 k hk
  have e2 := h'.2 k hk
  rw [rowB_get h1] at e1
  rw [rowB_get h2] at e2
  refine bth_ext e1 e2 fun c hcT => ?_
  have : bth (col c M) k = bth (col c M') k := by rw [hc c hcT]
  rw [col_bth h1, col_bth h2, rowB_get h1, rowB_get h2] at this
  exact this
theorem m0_rect (N T : Nat) : Rect N T (List.replicate N (List.replicate T false)) := ⟨List.length_replicate, fun k hk => by
  unfold rowB; rw [List.getD_eq_getElem?_getD, List.getElem?_replicate, if_pos hk]; simp⟩
/-- After N passes nothing is new. -/
theorem stepF_done {ps : List Pr} (hp : ∀ p ∈ ps, FitF N T p) : (passF (stepF lives emp) 0 ps (rounds (stepF lives emp) ps N (List.replicate N (List.replicate T false)))).2 = false := by
  have hR : Rect N T (rounds (stepF lives emp) ps N (List.replicate N (List.replicate T false))) :=
    rounds_keep (Q := Rect N T) (fun k p y hk hy => (stepF_all (hp p (List.mem_of_getElem? hk)) hy).1) (m0_rect N T) N
  have hlow := pass_lowers' (lives := lives) (emp := emp) (T := T) ps 0 _ hp hR
  have hsame : (passF (stepF lives emp) 0 ps (rounds (stepF lives emp) ps N (List.replicate N (List.replicate T false)))).1 = rounds (stepF lives emp) ps N (List.replicate N (List.replicate T false)) := by
    refine rect_ext hlow.1 hR fun c hc => ?_
    rw [(passF_col hc ps 0 _ hp hR).2, (rounds_col hc hp (m0_rect N T) N).2]
    have hb : col c (List.replicate N (List.replicate T false)) = b0 N := by
      unfold col b0
      rw [List.map_replicate]
      congr 1
      unfold bth
      rw [List.getD_eq_getElem?_getD, List.getElem?_replicate]
      split <;> rfl
    rw [hb]
    have hfix := fix_measure (step := stepC lives emp c) (Q := fun l : List Bool => l.length = N) (μ := muB) stepC_same (ps := ps) (fun k p y hk hy => by
      have hpp := hp p (List.mem_of_getElem? hk)
      unfold stepC
      split
      · obtain ⟨g1, g2, g3⟩ := goC_mu (emp := emp) (left := p.1.toNat) (c := c) p.2.1 y (by rw [hy]; exact hpp.1)
        exact ⟨by rw [g1]; exact hy, fun h => g3 (by simpa using h)⟩
      · exact ⟨hy, fun h => by cases h⟩) (x := b0 N) (by simp [b0])
    rw [muB_b0] at hfix
    exact pass_same stepC_same ps 0 _ hfix
  cases h : (passF (stepF lives emp) 0 ps (rounds (stepF lives emp) ps N (List.replicate N (List.replicate T false)))).2
  · rfl
  · have := hlow.2.2 h
    rw [hsame] at this
    omega
end
end Go.Proofs.Ytgfchgnebpogjaa
namespace Go.Proofs.Ytgfchgnebpogjaa
open Go.RowKit BigFrame
set_option linter.unusedVariables false
set_option linter.unusedSimpArgs false
set_option maxRecDepth 100000

theorem Blk.type_eq {w : World} {g : Nat} {e e' : TypeId} {vs vs' : List Value} (h : Blk w g e vs) (h' : Blk w g e' vs') : e = e' := by
  unfold Blk at h h'
  rw [h] at h'
  simp at h'
  exact h'.2

/-- What holds after some of the operations: those listed by l0 .. l7. -/
structure TwoC (W0 : World) (n0 N : Nat) (gv : Value) (LV EM : List Bool) (l0 l1 l2 l3 l4 l5 l6 l7 : Bool) (gl ge b3 b4 : Nat) (s3 s4 s6 s7 s8 s9 : Value) (w : World) : Prop where
  hb : Below (n0 + 1) W0 w
  z : n0 < W0.heap.size
  i0 : l0 = true → s6 = gv
  i2 : l2 = true → s8 = gv
  i1 : l1 = true → s7 = .slice (some ⟨gl, 0, none⟩) N N ∧ n0 < gl ∧ Blk w gl 4 (bv LV)
  i3 : l3 = true → s9 = .slice (some ⟨ge, 0, none⟩) N N ∧ n0 < ge ∧ Blk w ge 4 (bv EM)
  i4 : l4 = true → s3 = .pointer (some ⟨b3, 0, none⟩) ∧ n0 < b3 ∧ Blk w b3 38 [if l6 = true then .slice (some ⟨gl, 0, none⟩) N N else .slice none 0 0]
  i5 : l5 = true → s4 = .pointer (some ⟨b4, 0, none⟩) ∧ n0 < b4 ∧ Blk w b4 38 [if l7 = true then .slice (some ⟨ge, 0, none⟩) N N else .slice none 0 0]
  d : l4 = true → l5 = true → b3 ≠ b4
  p6 : l6 = true → l1 = true ∧ l4 = true
  p7 : l7 = true → l3 = true ∧ l5 = true
theorem TwoC.below {W0 : World} {n0 N : Nat} {gv : Value} {LV EM : List Bool} {l0 l1 l2 l3 l4 l5 l6 l7 : Bool} {gl ge b3 b4 : Nat} {s3 s4 s6 s7 s8 s9 : Value} {w w' : World} (h : TwoC W0 n0 N gv LV EM l0 l1 l2 l3 l4 l5 l6 l7 gl ge b3 b4 s3 s4 s6 s7 s8 s9 w) (hb : Below w.heap.size w w') :
    TwoC W0 n0 N gv LV EM l0 l1 l2 l3 l4 l5 l6 l7 gl ge b3 b4 s3 s4 s6 s7 s8 s9 w' :=
  ⟨h.hb.trans (hb.mono (by have := h.hb.size; have := h.z; omega)), h.z, h.i0, h.i2, fun e => ⟨(h.i1 e).1, (h.i1 e).2.1, (h.i1 e).2.2.below' hb⟩, fun e => ⟨(h.i3 e).1, (h.i3 e).2.1, (h.i3 e).2.2.below' hb⟩,
    fun e => ⟨(h.i4 e).1, (h.i4 e).2.1, (h.i4 e).2.2.below' hb⟩, fun e => ⟨(h.i5 e).1, (h.i5 e).2.1, (h.i5 e).2.2.below' hb⟩, h.d, h.p6, h.p7⟩
def TwoInv (W0 : World) (n0 N : Nat) (gv : Value) (LV EM : List Bool) (listed : Array Bool) (a : Act) (w : World) : Prop :=
  ∃ (l0 l1 l2 l3 l4 l5 l6 l7 : Bool) (gl ge b3 b4 : Nat) (s3 s4 s6 s7 s8 s9 : Value),
    listed = #[l0, l1, l2, l3, l4, l5, l6, l7] ∧
    a = ⟨#[gv, .pointer (some ⟨n0, 0, none⟩), .slice none 0 0, s3, s4, undef, s6, s7, s8, s9, undef, undef, undef, undef, undef, undef, undef, undef, undef, undef], []⟩ ∧
    TwoC W0 n0 N gv LV EM l0 l1 l2 l3 l4 l5 l6 l7 gl ge b3 b4 s3 s4 s6 s7 s8 s9 w

theorem fitF {G : Gr} (h : GOk G) {p : Prd} (hp : p ∈ G.prods) {N T : Nat} (hN : G.names = N) (hT : G.terms = T) : 0 ≤ p.1 ∧ p.2.1.length ≤ 20 ∧ FitF N T p := by
  have q := h.pr p hp
  have h0 := q.l0; have h1 := q.l1
  exact ⟨h0, q.r, by omega, fun s hs => by have := q.s s hs; exact ⟨fun _ => by omega, by omega⟩⟩

set_option maxHeartbeats 4000000 in
theorem firsts_any (G : Gr) (Ap Al As : Option Addr) (np cp nl cl ns cs : Nat) (w : World) (B N T : Nat) (hB : B ≤ w.heap.size) (hG : GrIn w B G Ap Al As np cp nl cl ns cs) (hk : GOk G) (hN : G.names = N) (hT : G.terms = T) :
    Calls Try.prog 50 #[.agg #[.int .i64 G.terms, .int .i64 G.names, .int .i64 G.start, .slice Ap np cp, .slice Al nl cl, .slice As ns cs]] w fun e w' => ∃ (D : Nat) (ρ : List Nat), e = .returned (.slice (some ⟨D, 0, none⟩) N N) ∧ w.heap.size ≤ D ∧ (∀ k, k < N → w.heap.size ≤ nthN ρ k) ∧
      MtSt w' D N T ρ (rounds (stepF (rounds (stepG livS) G.prods N (b0 N)) (rounds (stepG empS) G.prods N (b0 N))) G.prods N (m0 N T)) ∧ Below w.heap.size w w' := by
  obtain ⟨hb0, hs0, gb⟩ := gbox w G Ap Al As np cp nl cl ns cs
  obtain ⟨hp1, hp2⟩ := hG.p.len
  have hl3 := hG.lm; have hl4 := hG.sm
  unfold maxLen at hp2 hl3 hl4
  have HB0 := Lib.hid hb0; have HGB := Lib.hid gb; have HG := Lib.hid (hG.below (hb0.mono hB))
  have hlv : ∀ W, Below (w.heap.size + 1) (w.alloc (.cells #[.int .i64 G.terms, .int .i64 G.names, .int .i64 G.start, .slice Ap np cp, .slice Al nl cl, .slice As ns cs] 30)) W → Calls Try.prog 19 #[.agg #[.int .i64 G.terms, .int .i64 G.names, .int .i64 G.start, .slice Ap np cp, .slice Al nl cl, .slice As ns cs]] W fun e w' => ∃ g, e = .returned (.slice (some ⟨g, 0, none⟩) N N) ∧ W.heap.size ≤ g ∧ Blk w' g 4 (bv (rounds (stepG livS) G.prods N (b0 N))) ∧ Below W.heap.size W w' :=
    fun W h => LivesT_good G Ap Al As np cp nl cl ns cs W B N (by have := h.size; omega) (HG.out.below (h.mono (by omega))) hk hN
  have hem : ∀ W, Below (w.heap.size + 1) (w.alloc (.cells #[.int .i64 G.terms, .int .i64 G.names, .int .i64 G.start, .slice Ap np cp, .slice Al nl cl, .slice As ns cs] 30)) W → Calls Try.prog 23 #[.agg #[.int .i64 G.terms, .int .i64 G.names, .int .i64 G.start, .slice Ap np cp, .slice Al nl cl, .slice As ns cs]] W fun e w' => ∃ g, e = .returned (.slice (some ⟨g, 0, none⟩) N N) ∧ W.heap.size ≤ g ∧ Blk w' g 4 (bv (rounds (stepG empS) G.prods N (b0 N))) ∧ Below W.heap.size W w' :=
    fun W h => EmptyT_good G Ap Al As np cp nl cl ns cs W B N (by have := h.size; omega) (HG.out.below (h.mono (by omega))) hk hN
  have HLV := Lib.hid hlv; have HEM := Lib.hid hem; have HK := Lib.hid hk; have HN := Lib.hid hN; have HT := Lib.hid hT
  have hz0 : w.heap.size < (w.alloc (.cells #[.int .i64 G.terms, .int .i64 G.names, .int .i64 G.start, .slice Ap np cp, .slice Al nl cl, .slice As ns cs] 30)).heap.size := by omega
  clear hlv hem hG hk hN hT hp1 hb0 hs0 gb
  go_enter Try.func50, Try.ntmps50
  go_wp2_with fail
  generalize w.alloc (.cells #[.int .i64 G.terms, .int .i64 G.names, .int .i64 G.start, .slice Ap np cp, .slice Al nl cl, .slice As ns cs] 30) = W0 at *
  obtain ⟨LV, hLV⟩ : ∃ LV, LV = rounds (stepG livS) G.prods N (b0 N) := ⟨_, rfl⟩
  obtain ⟨EM, hEM⟩ : ∃ EM, EM = rounds (stepG empS) G.prods N (b0 N) := ⟨_, rfl⟩
  rw [← hLV] at HLV
  rw [← hEM] at HEM
  have HLVE := Lib.hid hLV; have HEME := Lib.hid hEM
  clear hLV hEM
  refine wp_region_inv (by kernel_rfl) (TwoInv W0 w.heap.size N (.agg #[.int .i64 G.terms, .int .i64 G.names, .int .i64 G.start, .slice Ap np cp, .slice Al nl cl, .slice As ns cs]) LV EM) (by kernel_rfl) ?_ ?_ ?_ ?_
  · rintro l a w' ⟨l0, l1, l2, l3, l4, l5, l6, l7, _, _, _, _, _, _, _, _, _, _, rfl, _⟩
    rfl
  · rintro l a w' ⟨l0, l1, l2, l3, l4, l5, l6, l7, gl, ge, b3, b4, s3, s4, s6, s7, s8, s9, rfl, rfl, hC⟩ hall
    obtain rfl : l0 = true := hall 0 (by decide)
    obtain rfl : l1 = true := hall 1 (by decide)
    obtain rfl : l2 = true := hall 2 (by decide)
    obtain rfl : l3 = true := hall 3 (by decide)
    obtain rfl : l4 = true := hall 4 (by decide)
    obtain rfl : l5 = true := hall 5 (by decide)
    obtain rfl : l6 = true := hall 6 (by decide)
    obtain rfl : l7 = true := hall 7 (by decide)
    clear hall
    obtain ⟨hb, hz, hi0, hi2, hi1, hi3, hi4, hi5, hd, _, _⟩ := hC
    obtain ⟨rfl, h1g, h1b⟩ := hi1 rfl
    obtain ⟨rfl, h3g, h3b⟩ := hi3 rfl
    obtain ⟨rfl, h4g, h4b⟩ := hi4 rfl
    obtain ⟨rfl, h5g, h5b⟩ := hi5 rfl
    have hd := hd rfl rfl
    obtain rfl := hi0 rfl
    obtain rfl := hi2 rfl
    clear hi0 hi2 hi1 hi3 hi4 hi5
    rw [if_pos rfl] at h4b h5b
    obtain ⟨c0, c1, c2, c3, c4, c5⟩ := HGB.out.below hb (Nat.lt_succ_self _)
    have hNN : N ≤ 300 := by have := HK.out.n1; have := HN.out; omega
    have hTT : T ≤ 300 := by have := HK.out.t1; have := HT.out; omega
    have HB := Lib.hid hb; have H1 := Lib.hid h1b; have H3 := Lib.hid h3b; have H4 := Lib.hid h4b; have H5 := Lib.hid h5b
    clear hb h1b h3b h4b h5b
    go_wp2_with fail
    rw [HN.out, HT.out]
    refine (newSets_any N T w' hNN (by omega)).mono ?_
    rintro e w2 ⟨D, ρ, rfl, hD, hρ, hM, hb2⟩
    have hb02 := HB.out.trans (hb2.mono (by have := HB.out.size; omega))
    obtain ⟨c0, c1, c2, c3, c4, c5⟩ := HGB.out.below hb02 (Nat.lt_succ_self _)
    have HM := Lib.hid hM; have HB2 := Lib.hid hb2; have HB02 := Lib.hid hb02
    clear hM hb2 hb02
    have hwz : w.heap.size < w'.heap.size := by have := HB.out.size; omega
    have hw2 : w'.heap.size ≤ w2.heap.size := HB2.out.size
    have z3 := (((Below.refl w2.heap.size w2).alloc (Nat.le_refl _) (.cells #[.slice (some ⟨D, 0, none⟩) N N] 61)).cell (p := ⟨w.heap.size, 3, none⟩) (by show w.heap.size < w2.heap.size; omega)).trans c3
    have hb3 : Below w2.heap.size w2 (w2.alloc (.cells #[.slice (some ⟨D, 0, none⟩) N N] 61)) := (Below.refl _ _).alloc (Nat.le_refl _) _
    have hs3 : (w2.alloc (.cells #[.slice (some ⟨D, 0, none⟩) N N] 61)).heap.size = w2.heap.size + 1 := by simp
    have hcm := new_cell w2 w2.heap.size rfl (.slice (some ⟨D, 0, none⟩) N N) 61
    have hLVl : LV.length = N := by rw [HLVE.out]; exact rounds_keep (Q := fun x : List Bool => x.length = N) (fun k p y hp hy => by rw [stepG_len]; exact hy) (by simp [b0]) N
    have hEMl : EM.length = N := by rw [HEME.out]; exact rounds_keep (Q := fun x : List Bool => x.length = N) (fun k p y hp hy => by rw [stepG_len]; exact hy) (by simp [b0]) N
    have hl1 := H1.out.lt; have hl3 := H3.out.lt; have hl4 := H4.out.lt; have hl5 := H5.out.lt
    have hf : FsSt (w2.alloc (.cells #[.slice (some ⟨D, 0, none⟩) N N] 61)) b3 w2.heap.size b4 gl ge D N T ρ LV EM (m0 N T) :=
      ⟨⟨((H4.out.below' HB2.out).below' hb3).cell rfl, (H1.out.below' HB2.out).below' hb3, hLVl⟩, ⟨((H5.out.below' HB2.out).below' hb3).cell rfl, (H3.out.below' HB2.out).below' hb3, hEMl⟩, hcm, HM.out.below hb3, ⟨by omega, by omega, by omega⟩,
        fun k hk => by have h1 := hρ k hk; have h2 := (HM.out.rows k hk).1.lt; exact ⟨by omega, by omega, by omega, by omega, by omega⟩⟩
    have hP := (HG.out.below ((HB02.out.trans (hb3.mono (by omega))).mono (by omega : B ≤ w.heap.size + 1))).p
    have HF := Lib.hid hf; have HP := Lib.hid hP
    clear hf hP c0 c1 c2 c3 c4 c5 hcm
    generalize hW3 : w2.alloc (.cells #[.slice (some ⟨D, 0, none⟩) N N] 61) = W3 at *
    have hset := settled3q 73 b3 w2.heap.size b4 (stepF LV EM) (fun w x => FsSt w b3 w2.heap.size b4 gl ge D N T ρ LV EM x) (fun j => ∃ k, k < N ∧ j = nthN ρ k) (Rect N T) muM B G.prods Ap np cp
      (fun _ _ => rfl)
      (fun k p y hp hy => (stepF_all (fitF HK.out (mem_of_get hp) HN.out HT.out).2.2 hy).2.2.2)
      (fun k p y hp hy => ⟨(stepF_all (fitF HK.out (mem_of_get hp) HN.out HT.out).2.2 hy).1, (stepF_all (fitF HK.out (mem_of_get hp) HN.out HT.out).2.2 hy).2.2.1⟩)
      (fun w w' x h hb => h.below hb)
      (fun k ⟨j, hj, e⟩ => by have := hρ j hj; omega)
      (fun k p A' n' c' w x hp hq hi hBw hr hl hm => by
        obtain ⟨px, r, py⟩ := p
        obtain ⟨f0, f1, f2, f3⟩ := fitF HK.out (mem_of_get hp) HN.out HT.out
        exact firsts1_any k px r py A' n' c' b3 w2.heap.size b4 gl ge D N T ρ LV EM x w B hBw hNN hTT hr hl (by rw [← hl]; exact f1) hi (fun k hk => by have := hρ k hk; omega) f0 f2 f3 _ rfl)
      W3 (m0 N T) (by omega) HP.out (m0_rect N T) HF.out
    have HSET := Lib.hid hset; clear hset
    go_wp2_with fail
    refine HSET.out.mono ?_
    rintro e w4 ⟨rfl, n, h1, h2, h3⟩
    have zm := h1.c
    have hag : rounds (stepF LV EM) G.prods n (m0 N T) = rounds (stepF LV EM) G.prods N (m0 N T) := gd_agree (step := stepF LV EM) (Q := Rect N T) (fun k p y hp hy => (stepF_all (fitF HK.out (mem_of_get hp) HN.out HT.out).2.2 hy).2.2.2) (fun k p y hp hy => (stepF_all (fitF HK.out (mem_of_get hp) HN.out HT.out).2.2 hy).1) (m0_rect N T) h2
      (stepF_done (fun p hp => (fitF HK.out hp HN.out HT.out).2.2))
    have H1' := Lib.hid h1.m; have HAG := Lib.hid hag
    have HBB := Lib.hid ((HB02.out.trans (hb3.mono (by omega))).trans (h3.bel (B := w.heap.size + 1) (by omega) (fun j hj ⟨k, hk, e⟩ => by have := hρ k hk; omega)))
    clear h1 h2 h3 hag
    go_wp2
    go_ret
    refine ⟨D, ρ, rfl, by omega, fun k hk => by have := hρ k hk; omega, ?_, HB0.out.trans (HBB.out.mono (by omega))⟩
    rw [← HLVE.out, ← HEME.out]
    have hh := H1'.out
    rw [HAG.out] at hh
    exact hh
  · rintro l a w' i ⟨l0, l1, l2, l3, l4, l5, l6, l7, gl, ge, b3, b4, s3, s4, s6, s7, s8, s9, rfl, rfl, hC⟩ hi
    obtain ⟨hl, o, ho, hpre⟩ := mem_ready.1 hi
    have hi8 : i < 8 := (Array.getElem?_eq_some_iff.1 ho).1
    refine wpOp_of_list ho ?_
    have hcell := HGB.out.below hC.hb (Nat.lt_succ_self _)
    obtain ⟨c0, c1, c2, c3, c4, c5⟩ := hcell
    have HC := Lib.hid hC
    have hcase : i = 0 ∨ i = 1 ∨ i = 2 ∨ i = 3 ∨ i = 4 ∨ i = 5 ∨ i = 6 ∨ i = 7 := by omega
    clear hi hi8
    rcases hcase with rfl | rfl | rfl | rfl | rfl | rfl | rfl | rfl
    · simp at ho hl
      subst ho hl
      clear hpre
      go_wp2_with fail
      exact ⟨true, l1, l2, l3, l4, l5, l6, l7, gl, ge, b3, b4, s3, s4, _, s7, s8, s9, rfl, rfl, ⟨HC.out.hb, HC.out.z, fun _ => rfl, HC.out.i2, HC.out.i1, HC.out.i3, HC.out.i4, HC.out.i5, HC.out.d, HC.out.p6, HC.out.p7⟩⟩
    · simp at ho hl
      subst ho hl
      simp [Region.binds] at hpre
      obtain rfl := hC.i0 hpre
      have hl6 : l6 = false := by cases l6; rfl; exact absurd (hC.p6 rfl).1 (by simp)
      subst hl6
      go_wp2_with fail
      refine (HLV.out w' HC.out.hb).mono ?_
      rintro e w1 ⟨g, rfl, hg, hblk, hb⟩
      have hC1 := HC.out.below hb
      have hsz := HC.out.hb.size; have hzz := HC.out.z
      go_wp2_with fail
      exact ⟨l0, true, l2, l3, l4, l5, false, l7, g, ge, b3, b4, s3, s4, _, _, s8, s9, rfl, rfl, ⟨hC1.hb, hC1.z, hC1.i0, hC1.i2, fun _ => ⟨rfl, by omega, hblk⟩, hC1.i3, hC1.i4, hC1.i5, hC1.d, fun h => by simp at h, hC1.p7⟩⟩
    · simp at ho hl
      subst ho hl
      clear hpre
      go_wp2_with fail
      exact ⟨l0, l1, true, l3, l4, l5, l6, l7, gl, ge, b3, b4, s3, s4, s6, s7, _, s9, rfl, rfl, ⟨HC.out.hb, HC.out.z, HC.out.i0, fun _ => rfl, HC.out.i1, HC.out.i3, HC.out.i4, HC.out.i5, HC.out.d, HC.out.p6, HC.out.p7⟩⟩
    · simp at ho hl
      subst ho hl
      simp [Region.binds] at hpre
      obtain rfl := hC.i2 hpre.1
      have hl7 : l7 = false := by cases l7; rfl; exact absurd (hC.p7 rfl).1 (by simp)
      subst hl7
      go_wp2_with fail
      refine (HEM.out w' HC.out.hb).mono ?_
      rintro e w1 ⟨g, rfl, hg, hblk, hb⟩
      have hC1 := HC.out.below hb
      have hsz := HC.out.hb.size; have hzz := HC.out.z
      go_wp2_with fail
      exact ⟨l0, l1, l2, true, l4, l5, l6, false, gl, g, b3, b4, s3, s4, s6, s7, _, _, rfl, rfl, ⟨hC1.hb, hC1.z, hC1.i0, hC1.i2, hC1.i1, fun _ => ⟨rfl, by omega, hblk⟩, hC1.i4, hC1.i5, hC1.d, hC1.p6, fun h => by simp at h⟩⟩
    · simp at ho hl
      subst ho hl
      clear hpre
      have hl6 : l6 = false := by cases l6; rfl; exact absurd (hC.p6 rfl).2 (by simp)
      subst hl6
      have hC1 := HC.out.below ((Below.refl w'.heap.size w').alloc (Nat.le_refl _) (.cells #[.slice none 0 0] 38))
      have hsz := HC.out.hb.size; have hzz := HC.out.z
      go_wp2_with fail
      exact ⟨l0, l1, l2, l3, true, l5, false, l7, gl, ge, w'.heap.size, b4, _, s4, s6, s7, s8, s9, rfl, rfl, ⟨hC1.hb, hC1.z, hC1.i0, hC1.i2, hC1.i1, hC1.i3, fun _ => ⟨rfl, by omega, Blk.made w' 38 (.slice none 0 0) 1⟩, hC1.i5, fun _ h e => by have := (HC.out.i5 h).2.2.lt; omega, fun h => by simp at h, hC1.p7⟩⟩
    · simp at ho hl
      subst ho hl
      clear hpre
      have hl7 : l7 = false := by cases l7; rfl; exact absurd (hC.p7 rfl).2 (by simp)
      subst hl7
      have hC1 := HC.out.below ((Below.refl w'.heap.size w').alloc (Nat.le_refl _) (.cells #[.slice none 0 0] 38))
      have hsz := HC.out.hb.size; have hzz := HC.out.z
      go_wp2_with fail
      exact ⟨l0, l1, l2, l3, l4, true, l6, false, gl, ge, b3, w'.heap.size, s3, _, s6, s7, s8, s9, rfl, rfl, ⟨hC1.hb, hC1.z, hC1.i0, hC1.i2, hC1.i1, hC1.i3, hC1.i4, fun _ => ⟨rfl, by omega, Blk.made w' 38 (.slice none 0 0) 1⟩, fun h _ e => by have := (HC.out.i4 h).2.2.lt; omega, hC1.p6, fun h => by simp at h⟩⟩
    · simp at ho hl
      subst ho hl
      simp [Region.binds] at hpre
      obtain ⟨rfl, rfl, rfl, rfl, -, -, rfl⟩ := hpre
      obtain ⟨rfl, h1g, h1b⟩ := hC.i1 rfl
      obtain ⟨rfl, h4g, h4b⟩ := hC.i4 rfl
      have hne1 : gl ≠ b3 := fun e => absurd (Blk.type_eq (e ▸ h1b) h4b) (by decide)
      have zf := h4b.frozen 0
      have zc := h4b.cell (i := 0) rfl
      have h4s := h4b.set_ 0 (.slice (some ⟨gl, 0, none⟩) N N)
      have hB6 : Below w'.heap.size w' w' := Below.refl _ _
      have hbs : Below (w.heap.size + 1) W0 (w'.setCell ⟨b3, 0, none⟩ (.slice (some ⟨gl, 0, none⟩) N N)) := HC.out.hb.setCell (by show w.heap.size + 1 ≤ b3; omega) _
      have h1s := h1b.far (p := ⟨b3, 0, none⟩) hne1 (.slice (some ⟨gl, 0, none⟩) N N)
      have h3s : ∀ e : true = true, Blk (w'.setCell ⟨b3, 0, none⟩ (.slice (some ⟨gl, 0, none⟩) N N)) ge 4 (bv EM) := fun e => ((HC.out.i3 e).2.2).far (p := ⟨b3, 0, none⟩) (fun q => by have q : ge = b3 := q; exact absurd (Blk.type_eq (q ▸ (HC.out.i3 e).2.2) h4b) (by decide)) _
      have h5s : ∀ e : true = true, Blk (w'.setCell ⟨b3, 0, none⟩ (.slice (some ⟨gl, 0, none⟩) N N)) b4 38 [if l7 = true then .slice (some ⟨ge, 0, none⟩) N N else .slice none 0 0] := fun e => ((HC.out.i5 e).2.2).far (p := ⟨b3, 0, none⟩) (fun q => HC.out.d rfl e q.symm) _
      have H1 := Lib.hid h1s; have H3 := Lib.hid h3s; have H4 := Lib.hid h4s; have H5 := Lib.hid h5s; have HBS := Lib.hid hbs
      clear h1s h3s h4s h5s hbs h1b h4b hC
      go_wp2_with fail
      exact ⟨true, true, l2, true, true, true, true, l7, gl, ge, b3, b4, _, s4, s6, _, s8, s9, rfl, rfl, ⟨HBS.out, HC.out.z, HC.out.i0, HC.out.i2, fun _ => ⟨rfl, h1g, H1.out⟩, fun e => ⟨(HC.out.i3 e).1, (HC.out.i3 e).2.1, H3.out (by simp)⟩, fun _ => ⟨rfl, h4g, H4.out⟩, fun e => ⟨(HC.out.i5 e).1, (HC.out.i5 e).2.1, H5.out (by simp)⟩, HC.out.d, fun _ => ⟨rfl, rfl⟩, HC.out.p7⟩⟩
    · simp at ho hl
      subst ho hl
      simp [Region.binds] at hpre
      obtain ⟨rfl, rfl, rfl, rfl, rfl, rfl, -, rfl, -, -⟩ := hpre
      obtain ⟨rfl, h1g, h1b⟩ := hC.i3 rfl
      obtain ⟨rfl, h4g, h4b⟩ := hC.i5 rfl
      have hne1 : ge ≠ b4 := fun e => absurd (Blk.type_eq (e ▸ h1b) h4b) (by decide)
      have zf := h4b.frozen 0
      have zc := h4b.cell (i := 0) rfl
      have h4s := h4b.set_ 0 (.slice (some ⟨ge, 0, none⟩) N N)
      have hB6 : Below w'.heap.size w' w' := Below.refl _ _
      have hbs : Below (w.heap.size + 1) W0 (w'.setCell ⟨b4, 0, none⟩ (.slice (some ⟨ge, 0, none⟩) N N)) := HC.out.hb.setCell (by show w.heap.size + 1 ≤ b4; omega) _
      have h1s := h1b.far (p := ⟨b4, 0, none⟩) hne1 (.slice (some ⟨ge, 0, none⟩) N N)
      have h3s : ∀ e : true = true, Blk (w'.setCell ⟨b4, 0, none⟩ (.slice (some ⟨ge, 0, none⟩) N N)) gl 4 (bv LV) := fun e => ((HC.out.i1 e).2.2).far (p := ⟨b4, 0, none⟩) (fun q => by have q : gl = b4 := q; exact absurd (Blk.type_eq (q ▸ (HC.out.i1 e).2.2) h4b) (by decide)) _
      have h5s : ∀ e : true = true, Blk (w'.setCell ⟨b4, 0, none⟩ (.slice (some ⟨ge, 0, none⟩) N N)) b3 38 [if true = true then .slice (some ⟨gl, 0, none⟩) N N else .slice none 0 0] := fun e => ((HC.out.i4 e).2.2).far (p := ⟨b4, 0, none⟩) (fun q => HC.out.d e rfl q) _
      have H1 := Lib.hid h1s; have H3 := Lib.hid h3s; have H4 := Lib.hid h4s; have H5 := Lib.hid h5s; have HBS := Lib.hid hbs
      clear h1s h3s h4s h5s hbs h1b h4b hC
      go_wp2_with fail
      exact ⟨true, true, true, true, true, true, true, true, gl, ge, b3, b4, s3, _, s6, s7, s8, _, rfl, rfl, ⟨HBS.out, HC.out.z, HC.out.i0, HC.out.i2, fun e => ⟨(HC.out.i1 e).1, (HC.out.i1 e).2.1, H3.out (by simp)⟩, fun _ => ⟨rfl, h1g, H1.out⟩, fun e => ⟨(HC.out.i4 e).1, (HC.out.i4 e).2.1, H5.out (by simp)⟩, fun _ => ⟨rfl, h4g, H4.out⟩, HC.out.d, HC.out.p6, fun _ => ⟨rfl, rfl⟩⟩⟩
  · exact ⟨false, false, false, false, false, false, false, false, 0, 0, 0, 0, undef, undef, undef, undef, undef, undef, rfl, rfl, ⟨⟨rfl, rfl, rfl, Nat.le_refl _, fun _ _ => rfl⟩, hz0, by simp, by simp, by simp, by simp, by simp, by simp, by simp, by simp, by simp⟩⟩
end Go.Proofs.Ytgfchgnebpogjaa
