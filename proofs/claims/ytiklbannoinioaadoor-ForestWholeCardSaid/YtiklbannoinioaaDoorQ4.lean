/- small: is a grammar no greater than what is claimed of? · A region that draws its order: quiet operations (calls too) ahead of one store: the cheap steps. · The document's leaves, the program's sound: a tree of a symbol with these leaves. -/
import Derived.Test.YtiklbannoinioaaDoorQ3
import Derived.Deep.QuietTactic
import Derived.BigQuiet
import Derived.StillTailTactics
namespace Go.Proofs.YtiklbannoinioaaDoor
open Go.RowKit
set_option linter.unusedVariables false
set_option linter.unusedSimpArgs false
set_option maxRecDepth 100000

structure GSmall (G : Gr) : Prop where
  t : G.terms ≤ 8
  n : G.names ≤ 8
  p : G.prods.length ≤ 14
  l : G.levels.length ≤ 8
  s : G.sides.length ≤ 8
  r : ∀ p ∈ G.prods, p.2.1.length ≤ 5
open Classical in
noncomputable def smallB (G : Gr) : Bool := decide (GSmall G)
theorem smallB_t {G : Gr} (h : GSmall G) : smallB G = true := by unfold smallB; simp [h]
theorem smallB_f {G : Gr} (h : ¬ GSmall G) : smallB G = false := by unfold smallB; simp [h]

theorem mem_of_get {α : Type} {l : List α} {k : Nat} {x : α} (h : l[k]? = some x) : x ∈ l := List.mem_of_getElem? h
/-- What holds of the first k holds of k + 1. -/
theorem all_step {α : Type} {l : List α} {f : α → Prop} {k : Nat} {x : α} (h : ∀ (j : Nat) (y : α), j < k → l[j]? = some y → f y) (hk : l[k]? = some x) (hx : f x) : ∀ (j : Nat) (y : α), j < k + 1 → l[j]? = some y → f y := by
  intro j y hj hy
  by_cases e : j = k
  · subst e; rw [hk] at hy; cases hy; exact hx
  · exact h j y (by omega) hy
theorem all_done {α : Type} {l : List α} {f : α → Prop} {k : Nat} (h : ∀ (j : Nat) (y : α), j < k → l[j]? = some y → f y) (hl : l.length ≤ k) : ∀ x ∈ l, f x := by
  intro x hx
  obtain ⟨j, hj, e⟩ := List.getElem_of_mem hx
  exact h j x (by omega) (by rw [List.getElem?_eq_getElem hj, e])

set_option maxHeartbeats 1000000 in
theorem small_any (G : Gr) (Ap Al As : Option Addr) (np cp nl cl ns cs : Nat) (w : World) (B : Nat) (hB : B ≤ w.heap.size) (hG : GrIn w B G Ap Al As np cp nl cl ns cs) :
    Calls Tryd.prog 5 #[.agg #[.int .i64 G.terms, .int .i64 G.names, .int .i64 G.start, .slice Ap np cp, .slice Al nl cl, .slice As ns cs]] w fun e w' => e = .returned (.bool (smallB G)) ∧ Below w.heap.size w w' := by
  obtain ⟨hb0, hs0, gb⟩ := gbox w G Ap Al As np cp nl cl ns cs
  obtain ⟨hp1, hp2⟩ := hG.p.len
  have hl1 := hG.ll; have hl2 := hG.sl; have hl3 := hG.lm; have hl4 := hG.sm
  have hG0 := hG.below (hb0.mono hB)
  unfold maxLen at hp2 hl3 hl4
  by_cases q1 : 8 < G.terms
  · have dq1 : decide (8 < G.terms) = true := decide_eq_true q1
    have HF := Lib.hid (smallB_f (G := G) (fun h => by have := h.t; omega))
    clear hp1 hl1 hl2 hG0 gb hG
    go_enter Tryd.func5, Tryd.ntmps5
    go_wp2
    go_ret
    exact ⟨ret_eq (by rw [HF.out]; rfl), hb0⟩
  have dq1 : decide (8 < G.terms) = false := decide_eq_false q1
  by_cases q2 : 8 < G.names
  · have dq2 : decide (8 < G.names) = true := decide_eq_true q2
    have HF := Lib.hid (smallB_f (G := G) (fun h => by have := h.n; omega))
    clear hp1 hl1 hl2 hG0 gb hG
    go_enter Tryd.func5, Tryd.ntmps5
    go_wp2
    go_ret
    exact ⟨ret_eq (by rw [HF.out]; rfl), hb0⟩
  have dq2 : decide (8 < G.names) = false := decide_eq_false q2
  by_cases q3 : 14 < (np : Int)
  · have dq3 : decide (14 < (np : Int)) = true := decide_eq_true q3
    have HF := Lib.hid (smallB_f (G := G) (fun h => by have := h.p; omega))
    clear hp1 hl1 hl2 hG0 gb hG
    go_enter Tryd.func5, Tryd.ntmps5
    go_wp2
    go_ret
    exact ⟨ret_eq (by rw [HF.out]; rfl), hb0⟩
  have dq3 : decide (14 < (np : Int)) = false := decide_eq_false q3
  by_cases q4 : 8 < (nl : Int)
  · have dq4 : decide (8 < (nl : Int)) = true := decide_eq_true q4
    have HF := Lib.hid (smallB_f (G := G) (fun h => by have := h.l; omega))
    clear hp1 hl1 hl2 hG0 gb hG
    go_enter Tryd.func5, Tryd.ntmps5
    go_wp2
    go_ret
    exact ⟨ret_eq (by rw [HF.out]; rfl), hb0⟩
  have dq4 : decide (8 < (nl : Int)) = false := decide_eq_false q4
  by_cases q5 : 8 < (ns : Int)
  · have dq5 : decide (8 < (ns : Int)) = true := decide_eq_true q5
    have HF := Lib.hid (smallB_f (G := G) (fun h => by have := h.s; omega))
    clear hp1 hl1 hl2 hG0 gb hG
    go_enter Tryd.func5, Tryd.ntmps5
    go_wp2
    go_ret
    exact ⟨ret_eq (by rw [HF.out]; rfl), hb0⟩
  have dq5 : decide (8 < (ns : Int)) = false := decide_eq_false q5
  have HP := Lib.hid hp1; have HL := Lib.hid hl1; have HS := Lib.hid hl2; clear hp1 hl1 hl2
  have HG := Lib.hid hG0; clear hG0 hG
  have gb3 := gb.c3
  clear gb
  go_enter Tryd.func5, Tryd.ntmps5
  go_wp2
  go_loop [3] (fun i => ∃ k : Nat, k ≤ np ∧ i = .int .i64 k ∧ Hid (∀ (j : Nat) (y : Prd), j < k → G.prods[j]? = some y → y.2.1.length ≤ 5)) (fun i => np - (intOf i).toNat)
  case atStart => exact ⟨0, Nat.zero_le _, rfl, fun j y h => absurd h (by omega)⟩
  case round =>
    obtain ⟨k, hk, rfl, HE⟩ := hrel
    by_cases hlt : k < np
    · obtain ⟨b, off, rfl, hb, hc⟩ := HG.out.p.at_ (by omega)
      obtain ⟨x, r, y, A', n', c', hq, z0, z1, z2, g1, g2, g3, g4⟩ := hc k hlt
      have HQ := Lib.hid hq; have HR := Lib.hid g1; clear hc hq g1 g4
      unfold maxLen at g3
      by_cases h5 : 5 < (n' : Int)
      · have HF := Lib.hid (smallB_f (G := G) (fun h => by have h1 := h.r _ (mem_of_get HQ.out); have h2 := HR.out; simp only at h1; omega))
        have d : decide (5 < (n' : Int)) = true := decide_eq_true h5
        go_wp2
        go_ret
        exact ⟨ret_eq (by rw [HF.out]; rfl), hb0⟩
      · have d : decide (5 < (n' : Int)) = false := decide_eq_false h5
        go_wp2
        go_round
        case rel => exact ⟨k + 1, by omega, by go_num, all_step HE.out HQ.out (by have h2 := HR.out; simp only; omega)⟩
        case measure => simp [intOf]; omega
    · have HF := Lib.hid (smallB_t (G := G) ⟨by omega, by omega, by have := HP.out; omega, by have := HL.out; omega, by have := HS.out; omega, all_done HE.out (by have := HP.out; omega)⟩)
      go_wp2
      go_ret
      exact ⟨ret_eq (by rw [HF.out]; rfl), hb0⟩
end Go.Proofs.YtiklbannoinioaaDoor
namespace Go.Proofs.YtiklbannoinioaaDoor
open Go
set_option linter.unusedVariables false

theorem wpStill_of_quiet {P : Program} {ops : Array Oper} {w : World} {Q : Act → Prop} : ∀ (l : List Oper) (a : Act), wpQuiet P ops (fun w' => w' = w) Q l a → wpStill P ops w Q l a
  | [], a, h => h
  | o :: rest, a, h => by
    unfold wpQuiet at h
    unfold wpStill
    split at h
    · rename_i hw
      rw [if_pos hw]
      obtain ⟨v, h1, h2⟩ := h
      have h3 := h1 w rfl
      unfold Oper.quietAt at h3
      unfold Oper.still
      generalize (execOp a.eval o).run P w = r at *
      cases r with
      | halt x w' => exact h3.elim
      | ok n w' =>
        cases n with
        | value u =>
          obtain ⟨rfl, rfl⟩ := h3
          exact ⟨rfl, wpStill_of_quiet rest _ h2⟩
        | skip =>
          obtain ⟨rfl, rfl⟩ := h3
          exact ⟨rfl, wpStill_of_quiet rest _ h2⟩
        | enter f args =>
          obtain ⟨rfl, hc⟩ := h3
          exact ⟨rfl, v, hc, wpStill_of_quiet rest _ h2⟩
        | _ => exact h3.elim
    · rename_i hw
      rw [if_neg hw]
      exact wpStill_of_quiet rest _ h

/-- N quiet operations, then the tail, in the world drawn once. -/
theorem wp_quiet_tail {P : Program} {ops : Array Oper} {w w2 : World} (hw : w2 = w.drew) {Q : Act → Prop} {l : List Oper} {a : Act} (h : wpQuiet P ops (fun w' => w' = w2) Q l a) : wpStill P ops w.drew Q l a := by
  subst hw
  exact wpStill_of_quiet l a h
end Go.Proofs.YtiklbannoinioaaDoor
namespace Go.Proofs.YtiklbannoinioaaDoor
open Go.RowKit BigFrame
set_option linter.unusedVariables false
set_option linter.unusedSimpArgs false
set_option maxRecDepth 100000

/-! ### plain -/
def prodAt (G : Gr) (p : Int) : Prd := G.prods.getD p.toNat (0, [], 0)
def leafOk (p tok : Int) (nk : Nat) (s : Int) (l : List Int) (at_ : Nat) : Prop := p = -1 ∧ nk = 0 ∧ tok = at_ ∧ at_ < l.length ∧ nth l at_ = s
def nodeOk (G : Gr) (p tok : Int) (nk : Nat) (s : Int) : Prop := 0 ≤ p ∧ p < (G.prods.length : Int) ∧ tok = 0 ∧ (prodAt G p).1 = -1 - s ∧ (prodAt G p).2.1.length = nk
instance (p tok : Int) (nk : Nat) (s : Int) (l : List Int) (at_ : Nat) : Decidable (leafOk p tok nk s l at_) := by unfold leafOk; infer_instance
instance (G : Gr) (p tok : Int) (nk : Nat) (s : Int) : Decidable (nodeOk G p tok nk s) := by unfold nodeOk; infer_instance
mutual
def lvT (G : Gr) (l : List Int) : Tr → Int → Nat → Option Nat
  | .nil, _, _ => none
  | .node p tok ks, s, at_ => if 0 ≤ s then (if leafOk p tok ks.length s l at_ then some (at_ + 1) else none) else (if nodeOk G p tok ks.length s then lvL G l ks (prodAt G p).2.1 at_ else none)
def lvL (G : Gr) (l : List Int) : List Tr → List Int → Nat → Option Nat
  | [], _, at_ => some at_
  | k :: ks, r, at_ => match lvT G l k (r.headD 0) at_ with
    | none => none
    | some a => lvL G l ks r.tail a
end
mutual
theorem lvT_le (G : Gr) (l : List Int) : ∀ (t : Tr) (s : Int) (at_ a : Nat), at_ ≤ l.length → lvT G l t s at_ = some a → a ≤ l.length
  | .nil, s, at_, a, h, e => by rw [lvT] at e; cases e
  | .node p tok ks, s, at_, a, h, e => by
    rw [lvT] at e
    split at e
    · split at e
      · rename_i q
        cases e
        exact q.2.2.2.1
      · cases e
    · split at e
      · exact lvL_le G l ks _ at_ a h e
      · cases e
theorem lvL_le (G : Gr) (l : List Int) : ∀ (ks : List Tr) (r : List Int) (at_ a : Nat), at_ ≤ l.length → lvL G l ks r at_ = some a → a ≤ l.length
  | [], r, at_, a, h, e => by rw [lvL] at e; cases e; exact h
  | k :: ks, r, at_, a, h, e => by
    rw [lvL] at e
    split at e
    · cases e
    · rename_i b hb
      exact lvL_le G l ks _ b a (lvT_le G l k _ at_ b h hb) e
end
/-- The kids from the i-th on. -/
theorem lvL_step (G : Gr) (l : List Int) (ks : List Tr) (r : List Int) (i at_ : Nat) (k : Tr) (hk : ks[i]? = some k) (hl : r.length = ks.length) :
    lvL G l (ks.drop i) (r.drop i) at_ = match lvT G l k (nth r i) at_ with | none => none | some a => lvL G l (ks.drop (i + 1)) (r.drop (i + 1)) a := by
  have hi := (List.getElem?_eq_some_iff.1 hk).1
  have e : ks[i] = k := (List.getElem?_eq_some_iff.1 hk).2
  rw [List.drop_eq_getElem_cons hi, e, lvL]
  have hr : i < r.length := by omega
  have h1 : (r.drop i).headD 0 = nth r i := by rw [List.drop_eq_getElem_cons hr, nth_get hr]; rfl
  have h2 : (r.drop i).tail = r.drop (i + 1) := by rw [List.drop_eq_getElem_cons hr]; rfl
  rw [h1, h2]
/-- As an int: -1 where there is none. -/
def optI : Option Nat → Int
  | none => -1
  | some a => (a : Int)
end Go.Proofs.YtiklbannoinioaaDoor
