/- A class of worlds for regions that draw their order: all that keep what lies below a block; callees may make memory of their own. · Contracts under the costs of edits: least, costsOk, inside; costs by ContainsFunc. -/
import Derived.Deep.Quiet
import Derived.BigQuiet
import Derived.Below
import Derived.Test.YtklhjaohnimmnaaDoorProg
import Derived.Test.YtklhjaohnimmnaaDoorQ2
import Derived.WalkSpells
import Derived.WalkLawsBesides
import Derived.Handy
import Derived.Deep.QuietTactic
namespace Go.Proofs.YtklhjaohnimmnaaDoor
open Go Go.RowKit
set_option linter.unusedVariables false

/-- A world that keeps, of w, what lies below block B. -/
structure WB (B : Nat) (w : World) where
  val : World
  bel : Below B w val

instance (B : Nat) (w : World) : Nonempty (WB B w) := ⟨⟨w, Below.refl _ _⟩⟩

theorem wp_region_cls {P : Program} {B : Nat} {w0 w : World} {id : Nat} {Q : Exit → Act → World → Prop} {a : Act} {l : List Oper} (hm : P.follows .mixedOrders = true) (hB : Region.lexB .any l.toArray = true) (hw : Below B w0 w)
    (h : wpQuiet P l.toArray (fun w' => ∃ X : WB B w0, w' = X.val) (fun a' => ∀ X : WB B w0, Q .normal a' X.val) l a) : (Code.region id l.toArray true).wp P Q a w :=
  wp_region_quiet (C := fun w' => ∃ X : WB B w0, w' = X.val) hm hB ⟨⟨{ w with drawn := w.drawn + 1 }, hw.trans ⟨rfl, rfl, rfl, Nat.le_refl _, fun _ _ => rfl⟩⟩, rfl⟩ (by
    have e : (fun a' => ∀ w', (∃ X : WB B w0, w' = X.val) → Q .normal a' w') = (fun a' => ∀ X : WB B w0, Q .normal a' X.val) := by
      funext a'
      apply propext
      exact ⟨fun h X => h _ ⟨X, rfl⟩, fun h w' ⟨X, e⟩ => e ▸ h X⟩
    simpa [e] using h)

/-- A callee's contract met in every world of the class. -/
theorem WB.call {P : Program} {B : Nat} {w0 : World} {f : FuncId} {args : Array Value} {v : Value} (X : WB B w0) (hB : B ≤ w0.heap.size) (h : Calls P f args X.val fun e w' => e = .returned v ∧ Below X.val.heap.size X.val w') :
    Calls P f args X.val fun e w'' => e = .returned v ∧ ∃ Y : WB B w0, w'' = Y.val :=
  h.mono fun e w'' ⟨he, hb⟩ => ⟨he, ⟨w'', X.bel.trans (hb.mono (Nat.le_trans hB X.bel.size))⟩, rfl⟩
theorem WB.call0 {P : Program} {B : Nat} {w0 : World} {f : FuncId} {args : Array Value} {v : Value} (X : WB B w0) (h : Calls P f args X.val fun e w' => e = .returned v ∧ X.val = w') :
    Calls P f args X.val fun e w'' => e = .returned v ∧ ∃ Y : WB B w0, w'' = Y.val :=
  h.mono fun e w'' ⟨he, hb⟩ => ⟨he, X, hb.symm⟩

/-- All blocks that were there are as they were, but those of S. -/
structure Kp (S : Nat → Prop) (w w' : World) : Prop where
  os : w'.os = w.os
  tape : w'.tape = w.tape
  output : w'.output = w.output
  size : w.heap.size ≤ w'.heap.size
  block : ∀ k, k < w.heap.size → ¬ S k → w'.heap[k]? = w.heap[k]?
section
variable {S S' : Nat → Prop} {a w w' : World}
theorem Kp.refl (S : Nat → Prop) (w : World) : Kp S w w := ⟨rfl, rfl, rfl, Nat.le_refl _, fun _ _ _ => rfl⟩
theorem Kp.trans (h : Kp S a w) (k : Kp S w w') : Kp S a w' :=
  ⟨k.os.trans h.os, k.tape.trans h.tape, k.output.trans h.output, Nat.le_trans h.size k.size, fun i hi hs => (k.block i (Nat.lt_of_lt_of_le hi h.size) hs).trans (h.block i hi hs)⟩
theorem Kp.mono (h : Kp S w w') (hs : ∀ k, k < w.heap.size → S k → S' k) : Kp S' w w' := ⟨h.os, h.tape, h.output, h.size, fun k hk hn => h.block k hk (fun e => hn (hs k hk e))⟩
theorem Kp.draws (h : Kp S a w) (n : Nat) : Kp S a (w.drewN n) := h.trans ⟨rfl, rfl, rfl, Nat.le_refl _, fun _ _ _ => rfl⟩
theorem Kp.draw (h : Kp S a w) : Kp S a w.drew := h.trans ⟨rfl, rfl, rfl, Nat.le_refl _, fun _ _ _ => rfl⟩
theorem Kp.alloc (h : Kp S a w) (o : Obj) : Kp S a (w.alloc o) :=
  have b : Below w.heap.size w (w.alloc o) := (Below.refl _ _).alloc (Nat.le_refl _) _
  h.trans ⟨b.os, b.tape, b.output, b.size, fun k hk _ => b.block k hk⟩
theorem Kp.set_ (h : Kp S a w) {p : Addr} (hp : a.heap.size ≤ p.block ∨ S p.block) (u : Value) : Kp S a (w.setCell p u) :=
  ⟨h.os, h.tape, h.output, by rw [show (w.setCell p u).heap.size = w.heap.size by simp [World.setCell]]; exact h.size, fun k hk hs => by
    rw [Below.heap_setCell w p u k (fun e => by subst e; rcases hp with hp | hp; exact absurd hk (by omega); exact hs hp)]
    exact h.block k hk hs⟩
theorem Kp.grown (h : Kp S a w) {row : Option Nat} (hg : w.grownBy w' row) (hr : ∀ k, row = some k → a.heap.size ≤ k ∨ S k) : Kp S a w' :=
  ⟨hg.os.trans h.os, hg.tape.trans h.tape, hg.output.trans h.output, Nat.le_trans h.size hg.size, fun k hk hs =>
    (hg.block k (Nat.lt_of_lt_of_le hk h.size) (fun e => by rcases hr k e.symm with q | q; exact absurd hk (by omega); exact hs q)).trans (h.block k hk hs)⟩
theorem Kp.of (h : Below w.heap.size w w') : Kp S w w' := ⟨h.os, h.tape, h.output, h.size, fun k hk _ => h.block k hk⟩
theorem Kp.bel (h : Kp S w w') {B : Nat} (hB : B ≤ w.heap.size) (hs : ∀ k, k < B → ¬ S k) : Below B w w' := ⟨h.os, h.tape, h.output, h.size, fun k hk => h.block k (Nat.lt_of_lt_of_le hk hB) (hs k hk)⟩
theorem Kp.cell (h : Kp S w w') {p : Addr} (hp : p.block < w.heap.size) (hs : ¬ S p.block) : w'.cell? p = w.cell? p := World.cell?_of_block (w := w) (h.block p.block hp hs)
end
end Go.Proofs.YtklhjaohnimmnaaDoor
namespace Go.Proofs.YtklhjaohnimmnaaDoor
open Go.RowKit
set_option linter.unusedVariables false
set_option linter.unusedSimpArgs false
set_option maxRecDepth 100000

def costB (c : Int) : Bool := decide (1 ≤ c) && decide (c ≤ 1000)
theorem costB_iff {c : Int} : costB c = true ↔ 1 ≤ c ∧ c ≤ 1000 := by simp [costB]
def insB (n : Int) (t : Int) : Bool := decide (0 ≤ t) && decide (t < n)
theorem insB_iff {n t : Int} : insB n t = true ↔ 0 ≤ t ∧ t < n := by simp [insB]

theorem all_take {f : Int → Bool} {l : List Int} {k : Nat} (h : k < l.length) (ha : (l.take k).all f = true) (hf : f (nth l k) = true) : (l.take (k + 1)).all f = true := by
  rw [List.take_succ_eq_append_getElem h, List.all_append, ha, ← nth_get h]; simp [hf]
theorem all_bad {f : Int → Bool} {l : List Int} {k : Nat} (h : k < l.length) (hf : f (nth l k) = false) : l.all f = false := by
  rw [List.all_eq_false]
  exact ⟨nth l k, by rw [nth_get h]; exact List.getElem_mem h, by rw [hf]; simp⟩
theorem all_end {f : Int → Bool} {l : List Int} {n k : Nat} (hl : l.length = n) (hk : ¬ k < n) (h : (l.take k).all f = true) : l.all f = true := by
  rwa [List.take_of_length_le (by omega)] at h

/-! ### the program's costs -/
theorem costs1_any (x : Int) (w : World) : Calls Tryd.prog 21 #[.int .i64 x] w fun e w' => e = .returned (.bool (!costB x)) ∧ w = w' := by
  by_cases h1 : x < 1
  · have d1 : decide (x < 1) = true := decide_eq_true h1
    have hb : (!costB x) = true := by cases hh : costB x; rfl; rw [costB_iff] at hh; omega
    have HB := Lib.hid hb; clear hb
    go_enter Tryd.func21, Tryd.ntmps21
    go_wp2
    go_ret
    exact ⟨ret_eq (by rw [HB.out]; rfl), rfl⟩
  have d1 : decide (x < 1) = false := decide_eq_false h1
  by_cases h2 : 1000 < x
  · have d2 : decide (1000 < x) = true := decide_eq_true h2
    have hb : (!costB x) = true := by cases hh : costB x; rfl; rw [costB_iff] at hh; omega
    have HB := Lib.hid hb; clear hb
    go_enter Tryd.func21, Tryd.ntmps21
    go_wp2
    go_ret
    exact ⟨ret_eq (by rw [HB.out]; rfl), rfl⟩
  have d2 : decide (1000 < x) = false := decide_eq_false h2
  have hb : (!costB x) = false := by rw [costB_iff.2 ⟨by omega, by omega⟩]; rfl
  have HB := Lib.hid hb; clear hb
  go_enter Tryd.func21, Tryd.ntmps21
  go_wp2
  go_ret
  exact ⟨ret_eq (by rw [HB.out]; rfl), rfl⟩

theorem idxCosts_any (A : Option Addr) (n c : Nat) (l : List Int) (w : World) (B : Nat) (h : RdI w B A l) (hl : l.length = n) (hm : n ≤ maxLen) :
    Calls Tryd.prog 36 #[.slice A n c, .func (.func 21) #[] #[]] w fun e w' => ∃ i : Int, e = .returned (.int .i64 i) ∧ Hid (decide (0 ≤ i) = !l.all costB) ∧ w = w' := by
  unfold maxLen at hm
  have Hl := Lib.hid hl; clear hl
  go_enter Tryd.func36, Tryd.ntmps36
  go_wp2
  go_loop [8] (fun i => ∃ k : Nat, k ≤ n ∧ i = .int .i64 k ∧ Hid ((l.take k).all costB = true)) (fun i => n - (intOf i).toNat)
  case atStart => exact ⟨0, Nat.zero_le _, rfl, rfl⟩
  case round =>
    obtain ⟨k, hk, rfl, HE⟩ := hrel
    by_cases hlt : k < n
    · obtain ⟨b, off, rfl, hb, hc⟩ := h.at_ (by rw [Hl.out]; omega)
      have c1 := hc k (by rw [Hl.out]; omega)
      clear hc
      obtain ⟨x, hx⟩ : ∃ x, x = nth l k := ⟨_, rfl⟩
      rw [← hx] at c1
      have HX := Lib.hid hx; clear hx
      have hcall := costs1_any x w
      cases hb1 : costB x
      · rw [hb1] at hcall
        have HC := Lib.hid hcall; clear hcall
        have hb := all_bad (f := costB) (l := l) (k := k) (by rw [Hl.out]; exact hlt) (by rw [← HX.out]; exact hb1)
        have HB := Lib.hid hb; clear hb hb1
        go_wp2_with (go_at_call 21; refine HC.out.mono ?_; rintro e w' ⟨rfl, rfl⟩)
        go_ret
        exact ⟨k, rfl, by show _ = _; rw [HB.out]; simp, rfl⟩
      · rw [hb1] at hcall
        have HC := Lib.hid hcall; clear hcall
        have HB := Lib.hid hb1; clear hb1
        go_wp2_with (go_at_call 21; refine HC.out.mono ?_; rintro e w' ⟨rfl, rfl⟩)
        go_round
        case rel => exact ⟨k + 1, by omega, by go_num, all_take (by rw [Hl.out]; exact hlt) HE.out (by rw [← HX.out]; exact HB.out)⟩
        case measure => simp [intOf]; omega
    · have hx := all_end Hl.out hlt HE.out
      have HX := Lib.hid hx; clear hx
      go_wp2
      go_ret
      exact ⟨-1, rfl, by show _ = _; rw [HX.out]; rfl, rfl⟩

theorem hasCosts_any (A : Option Addr) (n c : Nat) (l : List Int) (w : World) (B : Nat) (h : RdI w B A l) (hl : l.length = n) (hm : n ≤ maxLen) :
    Calls Tryd.prog 20 #[.slice A n c, .func (.func 21) #[] #[]] w fun e w' => e = .returned (.bool (!l.all costB)) ∧ w = w' := by
  have hcall := idxCosts_any A n c l w B h hl hm
  have HC := Lib.hid hcall; clear hcall
  go_enter Tryd.func20, Tryd.ntmps20
  go_wp2_with (go_at_call 36; refine HC.out.mono ?_; rintro e w' ⟨i, rfl, HI, rfl⟩)
  go_ret
  exact ⟨ret_eq (by rw [← HI.out]; rfl), rfl⟩

theorem costs_any (A : Option Addr) (n c : Nat) (l : List Int) (m : Int) (w : World) (B : Nat) (h : RdI w B A l) (hl : l.length = n) (hm : n ≤ maxLen) :
    Calls Tryd.prog 12 #[.slice A n c, .int .i64 m] w fun e w' => e = .returned (.bool (decide (m ≤ n) && l.all costB)) ∧ w = w' := by
  have hcall := hasCosts_any A n c l w B h hl hm
  unfold maxLen at hm
  by_cases h1 : m ≤ n
  · have d1 : decide (m ≤ (n : Int)) = true := decide_eq_true h1
    have D := Lib.hid d1
    cases hb : l.all costB
    all_goals
      rw [hb] at hcall
      have HC := Lib.hid hcall; clear hcall hb
      go_enter Tryd.func12, Tryd.ntmps12
      go_wp2_with (go_at_call 20; refine HC.out.mono ?_; rintro e w' ⟨rfl, rfl⟩)
      go_ret
      exact ⟨ret_eq (by rw [D.out]; rfl), rfl⟩
  · have d1 : decide (m ≤ (n : Int)) = false := decide_eq_false h1
    have D := Lib.hid d1
    clear hcall
    go_enter Tryd.func12, Tryd.ntmps12
    go_wp2
    go_ret
    exact ⟨ret_eq (by first | rfl | (rw [D.out]; rfl) | (show Value.bool false = Value.bool (decide _ && _); rw [D.out]; rfl)), rfl⟩
end Go.Proofs.YtklhjaohnimmnaaDoor
