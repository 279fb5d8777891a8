/- A class of worlds for regions that draw their order: all that keep what lies below a block; callees may make memory of their own. · grammar.settled with closures of three and of five captured variables. · Plain: which names have trees, which the empty sentence: a list of truths that grows. No program here. · grammar.Lives and grammar.Empty: grown, its closures. -/
import Derived.Deep.Quiet
import Derived.BigQuiet
import Derived.Below
import Derived.Test.YtgfchgnebpogjaaZ5
import Derived.Deep.LoopGhost
import Derived.Test.YtgfchgnebpogjaaZ1
import Derived.Test.YtgfchgnebpogjaaZ4
namespace Go.Proofs.Ytgfchgnebpogjaa
open Go Go.RowKit
set_option linter.unusedVariables false

/-- A world that keeps, of w, what lies below block B. -/
structure WB (B : Nat) (w : World) where
  val : World
  bel : Below B w val

instance (B : Nat) (w : World) : Nonempty (WB B w) := ⟨⟨w, Below.refl _ _⟩⟩

theorem wp_region_cls {P : Program} {B : Nat} {w0 w : World} {id : Nat} {Q : Exit → Act → World → Prop} {a : Act} {l : List Oper} (hm : P.follows .mixedOrders = true) (hB : Region.lexB .any l.toArray = true) (hw : Below B w0 w)
    (h : wpQuiet P l.toArray (fun w' => ∃ X : WB B w0, w' = X.val) (fun a' => ∀ X : WB B w0, Q .normal a' X.val) l a) : (Code.region id l.toArray true).wp P Q a w :=
  wp_region_quiet (C := fun w' => ∃ X : WB B w0, w' = X.val) hm hB ⟨⟨{ w with drawn := w.drawn + 1 }, hw.trans ⟨rfl, rfl, rfl, Nat.le_refl _, fun _ _ => rfl⟩⟩, rfl⟩ (by
    have e : (fun a' => ∀ w', (∃ X : WB B w0, w' = X.val) → Q .normal a' w') = (fun a' => ∀ X : WB B w0, Q .normal a' X.val) := by
      funext a'
      apply propext
      exact ⟨fun h X => h _ ⟨X, rfl⟩, fun h w' ⟨X, e⟩ => e ▸ h X⟩
    simpa [e] using h)

/-- A callee's contract met in every world of the class. -/
theorem WB.call {P : Program} {B : Nat} {w0 : World} {f : FuncId} {args : Array Value} {v : Value} (X : WB B w0) (hB : B ≤ w0.heap.size) (h : Calls P f args X.val fun e w' => e = .returned v ∧ Below X.val.heap.size X.val w') :
    Calls P f args X.val fun e w'' => e = .returned v ∧ ∃ Y : WB B w0, w'' = Y.val :=
  h.mono fun e w'' ⟨he, hb⟩ => ⟨he, ⟨w'', X.bel.trans (hb.mono (Nat.le_trans hB X.bel.size))⟩, rfl⟩
theorem WB.call0 {P : Program} {B : Nat} {w0 : World} {f : FuncId} {args : Array Value} {v : Value} (X : WB B w0) (h : Calls P f args X.val fun e w' => e = .returned v ∧ X.val = w') :
    Calls P f args X.val fun e w'' => e = .returned v ∧ ∃ Y : WB B w0, w'' = Y.val :=
  h.mono fun e w'' ⟨he, hb⟩ => ⟨he, X, hb.symm⟩

/-- All blocks that were there are as they were, but those of S. -/
structure Kp (S : Nat → Prop) (w w' : World) : Prop where
  os : w'.os = w.os
  tape : w'.tape = w.tape
  output : w'.output = w.output
  size : w.heap.size ≤ w'.heap.size
  block : ∀ k, k < w.heap.size → ¬ S k → w'.heap[k]? = w.heap[k]?
section
variable {S S' : Nat → Prop} {a w w' : World}
theorem Kp.refl (S : Nat → Prop) (w : World) : Kp S w w := ⟨rfl, rfl, rfl, Nat.le_refl _, fun _ _ _ => rfl⟩
theorem Kp.trans (h : Kp S a w) (k : Kp S w w') : Kp S a w' :=
  ⟨k.os.trans h.os, k.tape.trans h.tape, k.output.trans h.output, Nat.le_trans h.size k.size, fun i hi hs => (k.block i (Nat.lt_of_lt_of_le hi h.size) hs).trans (h.block i hi hs)⟩
theorem Kp.mono (h : Kp S w w') (hs : ∀ k, k < w.heap.size → S k → S' k) : Kp S' w w' := ⟨h.os, h.tape, h.output, h.size, fun k hk hn => h.block k hk (fun e => hn (hs k hk e))⟩
theorem Kp.draws (h : Kp S a w) (n : Nat) : Kp S a (w.drewN n) := h.trans ⟨rfl, rfl, rfl, Nat.le_refl _, fun _ _ _ => rfl⟩
theorem Kp.draw (h : Kp S a w) : Kp S a w.drew := h.trans ⟨rfl, rfl, rfl, Nat.le_refl _, fun _ _ _ => rfl⟩
theorem Kp.alloc (h : Kp S a w) (o : Obj) : Kp S a (w.alloc o) :=
  have b : Below w.heap.size w (w.alloc o) := (Below.refl _ _).alloc (Nat.le_refl _) _
  h.trans ⟨b.os, b.tape, b.output, b.size, fun k hk _ => b.block k hk⟩
theorem Kp.set_ (h : Kp S a w) {p : Addr} (hp : a.heap.size ≤ p.block ∨ S p.block) (u : Value) : Kp S a (w.setCell p u) :=
  ⟨h.os, h.tape, h.output, by rw [show (w.setCell p u).heap.size = w.heap.size by simp [World.setCell]]; exact h.size, fun k hk hs => by
    rw [Below.heap_setCell w p u k (fun e => by subst e; rcases hp with hp | hp; exact absurd hk (by omega); exact hs hp)]
    exact h.block k hk hs⟩
theorem Kp.grown (h : Kp S a w) {row : Option Nat} (hg : w.grownBy w' row) (hr : ∀ k, row = some k → a.heap.size ≤ k ∨ S k) : Kp S a w' :=
  ⟨hg.os.trans h.os, hg.tape.trans h.tape, hg.output.trans h.output, Nat.le_trans h.size hg.size, fun k hk hs =>
    (hg.block k (Nat.lt_of_lt_of_le hk h.size) (fun e => by rcases hr k e.symm with q | q; exact absurd hk (by omega); exact hs q)).trans (h.block k hk hs)⟩
theorem Kp.of (h : Below w.heap.size w w') : Kp S w w' := ⟨h.os, h.tape, h.output, h.size, fun k hk _ => h.block k hk⟩
theorem Kp.bel (h : Kp S w w') {B : Nat} (hB : B ≤ w.heap.size) (hs : ∀ k, k < B → ¬ S k) : Below B w w' := ⟨h.os, h.tape, h.output, h.size, fun k hk => h.block k (Nat.lt_of_lt_of_le hk hB) (hs k hk)⟩
theorem Kp.cell (h : Kp S w w') {p : Addr} (hp : p.block < w.heap.size) (hs : ¬ S p.block) : w'.cell? p = w.cell? p := World.cell?_of_block (w := w) (h.block p.block hp hs)
end
end Go.Proofs.Ytgfchgnebpogjaa
namespace Go.Proofs.Ytgfchgnebpogjaa
open Go.RowKit BigFrame
set_option linter.unusedVariables false
set_option linter.unusedSimpArgs false
set_option maxRecDepth 100000

set_option maxHeartbeats 1000000 in
theorem settled3 {σ : Type} (fid : FuncId) (v0 v1 v2 : Nat) (step : Nat → Prd → σ → σ × Bool) (I : World → σ → Prop) (S : Nat → Prop) (Q : σ → Prop) (μ : σ → Nat) (B : Nat) (PS : List Prd) (Ap : Option Addr) (np cp : Nat)
    (hrun : ∀ args w, (callFunc fid args).run Try.prog w = .ok (.enter fid args) w)
    (hsame : ∀ i p x, (step i p x).2 = false → (step i p x).1 = x)
    (hQ : ∀ k p y, PS[k]? = some p → Q y → Q (step k p y).1 ∧ ((step k p y).2 = true → μ (step k p y).1 < μ y))
    (hkeep : ∀ w w' x, I w x → Below w.heap.size w w' → I w' x)
    (hS : ∀ k, S k → B ≤ k)
    (hcall : ∀ (k : Nat) (p : Prd) A' n' c' w x, PS[k]? = some p → Q x → I w x → B ≤ w.heap.size → RdI w B A' p.2.1 → p.2.1.length = n' → n' ≤ maxLen →
      Calls Try.prog fid #[.int .i64 k, .agg #[.int .i64 p.1, .slice A' n' c', .int .i64 p.2.2], .pointer (some ⟨v0, 0, none⟩), .pointer (some ⟨v1, 0, none⟩), .pointer (some ⟨v2, 0, none⟩)] w fun e w' => e = .returned (.bool (step k p x).2) ∧ I w' (step k p x).1 ∧ Kp S w w')
    (w : World) (x : σ) (hB : B ≤ w.heap.size) (hP : RdP w B Ap np cp PS) (hx : Q x) (hI : I w x) :
    Calls Try.prog 39 #[.slice Ap np cp, .func (.func fid) #[] #[.pointer (some ⟨v0, 0, none⟩), .pointer (some ⟨v1, 0, none⟩), .pointer (some ⟨v2, 0, none⟩)]] w fun e w' => e = .returned (.tuple #[]) ∧ ∃ n, I w' (rounds step PS n x) ∧ (passF step 0 PS (rounds step PS n x)).2 = false ∧ Kp S w w' := by
  obtain ⟨hp1, hp2⟩ := hP.len
  unfold maxLen at hp2
  have HP1 := Lib.hid hp1; have HP := Lib.hid hP; have HI := Lib.hid hI; have HX := Lib.hid hx; have HSAME := Lib.hid hsame; have HQ := Lib.hid hQ; have HKEEP := Lib.hid hkeep; have HS := Lib.hid hS; have HCALL := Lib.hid hcall
  clear hp1 hP hI hx hsame hQ hkeep hS hcall
  go_enter Try.func39, Try.ntmps39
  go_wp2_with fail
  go_loopg [4] (μ x + 1) (fun gk ag wr => ∃ n : Nat, ∃ b : Bool, ag = .bool b ∧ gk = (if b then μ (rounds step PS n x) + 1 else 0) ∧ Hid (I wr (rounds step PS n x) ∧ Q (rounds step PS n x) ∧ Kp S w wr) ∧ Hid (b = false → (passF step 0 PS (rounds step PS n x)).2 = false))
  case atStart => exact ⟨0, true, rfl, rfl, ⟨HI.out, HX.out, Kp.refl _ _⟩, fun h => by cases h⟩
  case round =>
    obtain ⟨n, b, rfl, hgk, HR, HF⟩ := hrel
    obtain ⟨y, hy⟩ : ∃ y, y = rounds step PS n x := ⟨_, rfl⟩
    rw [← hy] at HR HF hgk
    have HY := Lib.hid hy; clear hy
    have HGK := Lib.hid hgk; clear hgk
    have HQY := Lib.hid HR.out.2.1
    cases b
    · go_wp2
      go_end0
      exact ⟨rfl, n, by rw [← HY.out]; exact ⟨HR.out.1, HF.out (by simp), HR.out.2.2⟩⟩
    · go_wp2_with fail
      go_loopw [4, 10] (fun ag i wr => ∃ k : Nat, ∃ b : Bool, k ≤ np ∧ i = .int .i64 k ∧ ag = .bool b ∧ Hid (b = (passF step 0 (PS.take k) y).2) ∧ Hid (I wr (passF step 0 (PS.take k) y).1 ∧ Q (passF step 0 (PS.take k) y).1 ∧ Kp S w wr)) (fun _ i _ => np - (intOf i).toNat)
      case atStart => exact ⟨0, false, Nat.zero_le _, rfl, rfl, rfl, HR.out⟩
      case round =>
        clear HR HF
        obtain ⟨k, b, hk, rfl, rfl, HB, HR⟩ := hrel
        by_cases hlt : k < np
        · have hbr : Below B w wr := HR.out.2.2.bel hB (fun j hj hs => by have := HS.out j hs; omega)
          have hBr : B ≤ wr.heap.size := Nat.le_trans hB HR.out.2.2.size
          obtain ⟨bb, off, rfl, hb, hc⟩ := (HP.out.below hbr).at_ (by omega)
          obtain ⟨px, r, py, A', n', c', hq, z0, z1, z2, g1, g2, g3, g4⟩ := hc k hlt
          have hx : Below wr.heap.size wr (wr.alloc (.cells #[.int .i64 px, .slice A' n' c', .int .i64 py] 50)) := (Below.refl _ _).alloc (Nat.le_refl _) _
          have hcl := HCALL.out k (px, r, py) A' n' c' _ _ hq HR.out.2.1 (HKEEP.out _ _ _ HR.out.1 hx) (Nat.le_trans hBr hx.size) (g4.below (hx.mono hBr)) g1 (by omega)
          have hps := passF_snoc step PS k (px, r, py) y hq
          have hq2 := HQ.out k (px, r, py) _ hq HR.out.2.1
          generalize hst : step k (px, r, py) (passF step 0 (PS.take k) y).1 = st at hcl hps hq2
          obtain ⟨s1, b1⟩ := st
          have HPS := Lib.hid hps; have HQ2 := Lib.hid hq2
          have HC := Lib.hid hcl
          have HX2 := Lib.hid hx
          clear hcl hps hq2 hst hc hq g1 g4 hx
          unfold maxLen at g3
          cases b1
          · go_wp2_with fail
            refine HC.out.mono ?_
            rintro e w1 ⟨rfl, hI1, hK1⟩
            go_wp2
            go_roundw
            case rel =>
              refine ⟨k + 1, b, by omega, by go_num, rfl, ?_, ?_⟩
              · show b = _; rw [HPS.out]; simp only [Bool.or_false]; exact HB.out
              · rw [HPS.out]; exact ⟨hI1, HQ2.out.1, (HR.out.2.2.alloc _).trans hK1⟩
            case measure => simp [intOf]; omega
          · go_wp2_with fail
            refine HC.out.mono ?_
            rintro e w1 ⟨rfl, hI1, hK1⟩
            go_wp2
            go_roundw
            case rel =>
              refine ⟨k + 1, true, by omega, by go_num, rfl, ?_, ?_⟩
              · show true = _; rw [HPS.out]; simp only [Bool.or_true]
              · rw [HPS.out]; exact ⟨hI1, HQ2.out.1, (HR.out.2.2.alloc _).trans hK1⟩
            case measure => simp [intOf]; omega
        · have he : PS.take k = PS := List.take_of_length_le (by rw [HP1.out]; omega)
          have hlow := pass_lowers (step := step) (μ := μ) (Q := Q) HSAME.out PS 0 y (fun k p z hp hz => by rw [Nat.zero_add]; exact HQ.out k p z hp hz) HQY.out
          rw [he] at HB HR
          have HHB := Lib.hid HB.out
          clear HB he
          have HLOW := Lib.hid hlow; clear hlow
          cases b
          · go_wp2
            go_roundg 0
            case measure => rw [HGK.out]; simp
            case rel =>
              refine ⟨n + 1, false, rfl, rfl, ?_, fun _ => ?_⟩
              · show Hid _; rw [rounds, ← HY.out]; exact HR
              · rw [rounds, ← HY.out, pass_same HSAME.out PS 0 y HHB.out.symm]; exact HHB.out.symm
          · have hμ : μ (passF step 0 PS y).1 < μ y := HLOW.out.2 HHB.out.symm
            have HM := Lib.hid hμ; clear hμ
            go_wp2
            go_roundg (μ (passF step 0 PS y).1 + 1)
            case measure => rw [HGK.out]; simp; exact HM.out
            case rel =>
              refine ⟨n + 1, true, rfl, ?_, ?_, fun h => by cases h⟩
              · rw [rounds, ← HY.out]; rfl
              · show Hid _; rw [rounds, ← HY.out]; exact HR

set_option maxHeartbeats 1000000 in
theorem settled5 {σ : Type} (fid : FuncId) (v0 v1 v2 v3 v4 : Nat) (step : Nat → Prd → σ → σ × Bool) (I : World → σ → Prop) (S : Nat → Prop) (Q : σ → Prop) (μ : σ → Nat) (B : Nat) (PS : List Prd) (Ap : Option Addr) (np cp : Nat)
    (hrun : ∀ args w, (callFunc fid args).run Try.prog w = .ok (.enter fid args) w)
    (hsame : ∀ i p x, (step i p x).2 = false → (step i p x).1 = x)
    (hQ : ∀ k p y, PS[k]? = some p → Q y → Q (step k p y).1 ∧ ((step k p y).2 = true → μ (step k p y).1 < μ y))
    (hkeep : ∀ w w' x, I w x → Below w.heap.size w w' → I w' x)
    (hS : ∀ k, S k → B ≤ k)
    (hcall : ∀ (k : Nat) (p : Prd) A' n' c' w x, PS[k]? = some p → Q x → I w x → B ≤ w.heap.size → RdI w B A' p.2.1 → p.2.1.length = n' → n' ≤ maxLen →
      Calls Try.prog fid #[.int .i64 k, .agg #[.int .i64 p.1, .slice A' n' c', .int .i64 p.2.2], .pointer (some ⟨v0, 0, none⟩), .pointer (some ⟨v1, 0, none⟩), .pointer (some ⟨v2, 0, none⟩), .pointer (some ⟨v3, 0, none⟩), .pointer (some ⟨v4, 0, none⟩)] w fun e w' => e = .returned (.bool (step k p x).2) ∧ I w' (step k p x).1 ∧ Kp S w w')
    (w : World) (x : σ) (hB : B ≤ w.heap.size) (hP : RdP w B Ap np cp PS) (hx : Q x) (hI : I w x) :
    Calls Try.prog 39 #[.slice Ap np cp, .func (.func fid) #[] #[.pointer (some ⟨v0, 0, none⟩), .pointer (some ⟨v1, 0, none⟩), .pointer (some ⟨v2, 0, none⟩), .pointer (some ⟨v3, 0, none⟩), .pointer (some ⟨v4, 0, none⟩)]] w fun e w' => e = .returned (.tuple #[]) ∧ ∃ n, I w' (rounds step PS n x) ∧ (passF step 0 PS (rounds step PS n x)).2 = false ∧ Kp S w w' := by
  obtain ⟨hp1, hp2⟩ := hP.len
  unfold maxLen at hp2
  have HP1 := Lib.hid hp1; have HP := Lib.hid hP; have HI := Lib.hid hI; have HX := Lib.hid hx; have HSAME := Lib.hid hsame; have HQ := Lib.hid hQ; have HKEEP := Lib.hid hkeep; have HS := Lib.hid hS; have HCALL := Lib.hid hcall
  clear hp1 hP hI hx hsame hQ hkeep hS hcall
  go_enter Try.func39, Try.ntmps39
  go_wp2_with fail
  go_loopg [4] (μ x + 1) (fun gk ag wr => ∃ n : Nat, ∃ b : Bool, ag = .bool b ∧ gk = (if b then μ (rounds step PS n x) + 1 else 0) ∧ Hid (I wr (rounds step PS n x) ∧ Q (rounds step PS n x) ∧ Kp S w wr) ∧ Hid (b = false → (passF step 0 PS (rounds step PS n x)).2 = false))
  case atStart => exact ⟨0, true, rfl, rfl, ⟨HI.out, HX.out, Kp.refl _ _⟩, fun h => by cases h⟩
  case round =>
    obtain ⟨n, b, rfl, hgk, HR, HF⟩ := hrel
    obtain ⟨y, hy⟩ : ∃ y, y = rounds step PS n x := ⟨_, rfl⟩
    rw [← hy] at HR HF hgk
    have HY := Lib.hid hy; clear hy
    have HGK := Lib.hid hgk; clear hgk
    have HQY := Lib.hid HR.out.2.1
    cases b
    · go_wp2
      go_end0
      exact ⟨rfl, n, by rw [← HY.out]; exact ⟨HR.out.1, HF.out (by simp), HR.out.2.2⟩⟩
    · go_wp2_with fail
      go_loopw [4, 10] (fun ag i wr => ∃ k : Nat, ∃ b : Bool, k ≤ np ∧ i = .int .i64 k ∧ ag = .bool b ∧ Hid (b = (passF step 0 (PS.take k) y).2) ∧ Hid (I wr (passF step 0 (PS.take k) y).1 ∧ Q (passF step 0 (PS.take k) y).1 ∧ Kp S w wr)) (fun _ i _ => np - (intOf i).toNat)
      case atStart => exact ⟨0, false, Nat.zero_le _, rfl, rfl, rfl, HR.out⟩
      case round =>
        clear HR HF
        obtain ⟨k, b, hk, rfl, rfl, HB, HR⟩ := hrel
        by_cases hlt : k < np
        · have hbr : Below B w wr := HR.out.2.2.bel hB (fun j hj hs => by have := HS.out j hs; omega)
          have hBr : B ≤ wr.heap.size := Nat.le_trans hB HR.out.2.2.size
          obtain ⟨bb, off, rfl, hb, hc⟩ := (HP.out.below hbr).at_ (by omega)
          obtain ⟨px, r, py, A', n', c', hq, z0, z1, z2, g1, g2, g3, g4⟩ := hc k hlt
          have hx : Below wr.heap.size wr (wr.alloc (.cells #[.int .i64 px, .slice A' n' c', .int .i64 py] 50)) := (Below.refl _ _).alloc (Nat.le_refl _) _
          have hcl := HCALL.out k (px, r, py) A' n' c' _ _ hq HR.out.2.1 (HKEEP.out _ _ _ HR.out.1 hx) (Nat.le_trans hBr hx.size) (g4.below (hx.mono hBr)) g1 (by omega)
          have hps := passF_snoc step PS k (px, r, py) y hq
          have hq2 := HQ.out k (px, r, py) _ hq HR.out.2.1
          generalize hst : step k (px, r, py) (passF step 0 (PS.take k) y).1 = st at hcl hps hq2
          obtain ⟨s1, b1⟩ := st
          have HPS := Lib.hid hps; have HQ2 := Lib.hid hq2
          have HC := Lib.hid hcl
          have HX2 := Lib.hid hx
          clear hcl hps hq2 hst hc hq g1 g4 hx
          unfold maxLen at g3
          cases b1
          · go_wp2_with fail
            refine HC.out.mono ?_
            rintro e w1 ⟨rfl, hI1, hK1⟩
            go_wp2
            go_roundw
            case rel =>
              refine ⟨k + 1, b, by omega, by go_num, rfl, ?_, ?_⟩
              · show b = _; rw [HPS.out]; simp only [Bool.or_false]; exact HB.out
              · rw [HPS.out]; exact ⟨hI1, HQ2.out.1, (HR.out.2.2.alloc _).trans hK1⟩
            case measure => simp [intOf]; omega
          · go_wp2_with fail
            refine HC.out.mono ?_
            rintro e w1 ⟨rfl, hI1, hK1⟩
            go_wp2
            go_roundw
            case rel =>
              refine ⟨k + 1, true, by omega, by go_num, rfl, ?_, ?_⟩
              · show true = _; rw [HPS.out]; simp only [Bool.or_true]
              · rw [HPS.out]; exact ⟨hI1, HQ2.out.1, (HR.out.2.2.alloc _).trans hK1⟩
            case measure => simp [intOf]; omega
        · have he : PS.take k = PS := List.take_of_length_le (by rw [HP1.out]; omega)
          have hlow := pass_lowers (step := step) (μ := μ) (Q := Q) HSAME.out PS 0 y (fun k p z hp hz => by rw [Nat.zero_add]; exact HQ.out k p z hp hz) HQY.out
          rw [he] at HB HR
          have HHB := Lib.hid HB.out
          clear HB he
          have HLOW := Lib.hid hlow; clear hlow
          cases b
          · go_wp2
            go_roundg 0
            case measure => rw [HGK.out]; simp
            case rel =>
              refine ⟨n + 1, false, rfl, rfl, ?_, fun _ => ?_⟩
              · show Hid _; rw [rounds, ← HY.out]; exact HR
              · rw [rounds, ← HY.out, pass_same HSAME.out PS 0 y HHB.out.symm]; exact HHB.out.symm
          · have hμ : μ (passF step 0 PS y).1 < μ y := HLOW.out.2 HHB.out.symm
            have HM := Lib.hid hμ; clear hμ
            go_wp2
            go_roundg (μ (passF step 0 PS y).1 + 1)
            case measure => rw [HGK.out]; simp; exact HM.out
            case rel =>
              refine ⟨n + 1, true, rfl, ?_, ?_, fun h => by cases h⟩
              · rw [rounds, ← HY.out]; rfl
              · show Hid _; rw [rounds, ← HY.out]; exact HR
end Go.Proofs.Ytgfchgnebpogjaa
namespace Go.Proofs.Ytgfchgnebpogjaa
set_option linter.unusedVariables false
set_option linter.unusedSimpArgs false

/-- What a symbol must be: (of Lives) a terminal or a name that is in; (of Empty) a name that is in. -/
def livS (l : List Bool) (s : Int) : Bool := decide (0 ≤ s) || bth l (-1 - s).toNat
def empS (l : List Bool) (s : Int) : Bool := decide (s < 0) && bth l (-1 - s).toNat
section
variable (f : List Bool → Int → Bool)
def stepG (_ : Nat) (p : Pr) (l : List Bool) : List Bool × Bool :=
  if bth l p.1.toNat || !(p.2.1.all (f l)) then (l, false) else (l.set p.1.toNat true, true)
variable {f}
theorem stepG_same (i : Nat) (p : Pr) (l : List Bool) (h : (stepG f i p l).2 = false) : (stepG f i p l).1 = l := by
  unfold stepG at h ⊢
  split
  · rfl
  · rw [if_neg ‹_›] at h; cases h
theorem stepG_len {i : Nat} {p : Pr} {l : List Bool} : (stepG f i p l).1.length = l.length := by
  unfold stepG; split <;> simp
/-- How many are not in. -/
def muB (l : List Bool) : Nat := (l.map (fun b => if b = true then 0 else 1)).sum
theorem muB_set : ∀ (l : List Bool) (k : Nat), k < l.length → bth l k = false → muB (l.set k true) < muB l
  | [], k, h, _ => by simp at h
  | b :: l, 0, _, h => by
    have : bth (b :: l) 0 = b := rfl
    rw [this] at h
    subst h
    simp [muB]
  | b :: l, k + 1, h, hb => by
    have : bth (b :: l) (k + 1) = bth l k := by simp [bth]
    rw [this] at hb
    have := muB_set l k (by simpa using h) hb
    unfold muB at this ⊢
    rw [List.set_cons_succ, List.map_cons, List.map_cons, List.sum_cons, List.sum_cons]
    omega
theorem stepG_mu {i : Nat} {p : Pr} {l : List Bool} (hk : p.1.toNat < l.length) (h : (stepG f i p l).2 = true) : muB (stepG f i p l).1 < muB l := by
  unfold stepG at h ⊢
  split at h
  · cases h
  · rename_i hc
    rw [if_neg hc]
    exact muB_set l _ hk (by cases hb : bth l p.1.toNat; rfl; rw [hb] at hc; simp at hc)
def b0 (N : Nat) : List Bool := List.replicate N false
theorem muB_b0 (N : Nat) : muB (b0 N) = N := by
  unfold muB b0
  rw [List.map_replicate]
  induction N with
  | zero => rfl
  | succ n ih => rw [List.replicate_succ, List.sum_cons, ih]; simp; omega
theorem stepG_done {ps : List Pr} {N : Nat} (hf : ∀ p ∈ ps, p.1.toNat < N) : (passF (stepG f) 0 ps (rounds (stepG f) ps N (b0 N))).2 = false := by
  have := fix_measure (step := stepG f) (Q := fun l : List Bool => l.length = N) (μ := muB) stepG_same (ps := ps) (fun k p y hp hy => ⟨by rw [stepG_len]; exact hy, fun h => stepG_mu (by rw [hy]; exact hf p (List.mem_of_getElem? hp)) h⟩) (x := b0 N) (by simp [b0])
  rwa [muB_b0] at this
theorem grow_agree {ps : List Pr} {N m : Nat} (hf : ∀ p ∈ ps, p.1.toNat < N) (h : (passF (stepG f) 0 ps (rounds (stepG f) ps m (b0 N))).2 = false) : rounds (stepG f) ps m (b0 N) = rounds (stepG f) ps N (b0 N) := by
  have h2 := stepG_done (f := f) hf
  have a := (rounds_fixed stepG_same h (Nat.le_add_right m N)).1
  have b := (rounds_fixed stepG_same h2 (Nat.le_add_left N m)).1
  rw [← a, ← b]
end
end Go.Proofs.Ytgfchgnebpogjaa
namespace Go.Proofs.Ytgfchgnebpogjaa
open Go.RowKit BigFrame
set_option linter.unusedVariables false
set_option linter.unusedSimpArgs false
set_option maxRecDepth 100000

theorem elBg : ElTy Try.prog 38 4 1 1 (.bool false) := ⟨Try.underlying38, by kernel_rfl, rfl, by decide⟩
theorem prFitg {G : Gr} (h : GOk G) {p : Prd} (hp : p ∈ G.prods) {N : Nat} (hN : G.names = N) : 0 ≤ p.1 ∧ p.1.toNat < N ∧ ∀ s ∈ p.2.1, s < 0 → (-1 - s).toNat < N := by
  have q := h.pr p hp
  have h0 := q.l0; have h1 := q.l1
  exact ⟨h0, by omega, fun s hs hn => by have := (q.s s hs).1; omega⟩

theorem livS_any (x : Int) (g N : Nat) (l : List Bool) (w : World) (hN : N ≤ 300) (h : Blk w g 4 (bv l)) (hl : l.length = N) (hx : x < 0 → (-1 - x).toNat < N) :
    Calls Try.prog 48 #[.int .i64 x, .slice (some ⟨g, 0, none⟩) N N] w fun e w' => e = .returned (.bool (livS l x)) ∧ w = w' := by
  by_cases h1 : 0 ≤ x
  · have d1 : decide (0 ≤ x) = true := decide_eq_true h1
    have HF : Hid (livS l x = true) := Lib.hid (by unfold livS; simp [h1])
    clear hl h hx
    go_enter Try.func48, Try.ntmps48
    go_wp2
    go_ret
    exact ⟨ret_eq (by rw [HF.out]; rfl), rfl⟩
  · have d1 : decide (0 ≤ x) = false := decide_eq_false h1
    have ht := hx (by omega)
    obtain ⟨t, ht1⟩ : ∃ t : Nat, t = (-1 - x).toNat := ⟨_, rfl⟩
    rw [← ht1] at ht
    have hts : -1 - x = (t : Int) := by omega
    have z := h.bcell (k := t) (by rw [hl]; exact ht)
    have HF : Hid (livS l x = bth l t) := Lib.hid (by unfold livS; rw [← ht1]; simp [h1])
    generalize bth l t = q at z HF
    clear hl h hx ht1
    go_enter Try.func48, Try.ntmps48
    go_wp2
    go_ret
    exact ⟨ret_eq (by rw [HF.out]; rfl), rfl⟩
theorem empS_any (x : Int) (g N : Nat) (l : List Bool) (w : World) (hN : N ≤ 300) (h : Blk w g 4 (bv l)) (hl : l.length = N) (hx : x < 0 → (-1 - x).toNat < N) :
    Calls Try.prog 54 #[.int .i64 x, .slice (some ⟨g, 0, none⟩) N N] w fun e w' => e = .returned (.bool (empS l x)) ∧ w = w' := by
  by_cases h1 : x < 0
  · have d1 : decide (x < 0) = true := decide_eq_true h1
    have ht := hx (by omega)
    obtain ⟨t, ht1⟩ : ∃ t : Nat, t = (-1 - x).toNat := ⟨_, rfl⟩
    rw [← ht1] at ht
    have hts : -1 - x = (t : Int) := by omega
    have z := h.bcell (k := t) (by rw [hl]; exact ht)
    have HF : Hid (empS l x = bth l t) := Lib.hid (by unfold empS; rw [← ht1]; simp [h1])
    generalize bth l t = q at z HF
    clear hl h hx ht1
    go_enter Try.func54, Try.ntmps54
    go_wp2
    go_ret
    exact ⟨ret_eq (by rw [HF.out]; rfl), rfl⟩
  · have d1 : decide (x < 0) = false := decide_eq_false h1
    have HF : Hid (empS l x = false) := Lib.hid (by unfold empS; simp [h1])
    clear hl h hx
    go_enter Try.func54, Try.ntmps54
    go_wp2
    go_ret
    exact ⟨ret_eq (by rw [HF.out]; rfl), rfl⟩

/-- The list l of truths lies in block g, its slice in the cell of v. -/
structure BlSt (w : World) (v g N : Nat) (l : List Bool) : Prop where
  c : w.cell? ⟨v, 0, none⟩ = some (.slice (some ⟨g, 0, none⟩) N N)
  b : Blk w g 4 (bv l)
  l : l.length = N
theorem BlSt.below {w w' : World} {B v g N : Nat} {l : List Bool} (h : BlSt w v g N l) (hb : Below B w w') (hv : v < B) (hg : g < B) : BlSt w' v g N l :=
  ⟨(hb.cell (p := ⟨v, 0, none⟩) hv).trans h.c, h.b.below hb hg, h.l⟩


theorem allLives_any (px : Int) (r : List Int) (py : Int) (A' : Option Addr) (n' c' : Nat) (w : World) (hm : n' ≤ maxLen) :
    Calls Try.prog 49 #[.agg #[.int .i64 px, .slice A' n' c', .int .i64 py]] w fun e w' => e = .returned (.bool true) ∧ Below w.heap.size w w' := by
  have hb0 : Below w.heap.size w (w.alloc (.cells #[.int .i64 px, .slice A' n' c', .int .i64 py] 50)) := (Below.refl _ _).alloc (Nat.le_refl _) _
  unfold maxLen at hm
  go_enter Try.func49, Try.ntmps49
  go_wp2
  go_ret
  exact ⟨rfl, hb0⟩
theorem innerLives_any (x : Int) (vs v g N : Nat) (l : List Bool) (w : World) (hN : N ≤ 300) (hc : w.cell? ⟨vs, 0, none⟩ = some (.func (.func 48) #[] #[])) (h : BlSt w v g N l) (hx : x < 0 → (-1 - x).toNat < N) :
    Calls Try.prog 72 #[.int .i64 x, .pointer (some ⟨vs, 0, none⟩), .pointer (some ⟨v, 0, none⟩)] w fun e w' => e = .returned (.bool (!livS l x)) ∧ w = w' := by
  have HC := Lib.hid (livS_any x g N l w hN h.b h.l hx)
  have z := h.c
  clear h hx
  generalize livS l x = q at *
  go_enter Try.func72, Try.ntmps72
  go_wp2_with fail
  refine HC.out.mono ?_
  rintro e w' ⟨rfl, rfl⟩
  go_wp2
  go_ret
  exact ⟨rfl, rfl⟩
set_option maxHeartbeats 1000000 in
theorem grownLives_any (i : Int) (px : Int) (r : List Int) (py : Int) (A' : Option Addr) (n' c' v vp vs g N : Nat) (l : List Bool) (w : World) (B : Nat) (hB : B ≤ w.heap.size) (hvs : v < w.heap.size) (hvg : v ≠ g) (hps : vp < w.heap.size) (hss : vs < w.heap.size) (hN : N ≤ 300)
    (hr : RdI w B A' r) (hl : r.length = n') (hm : n' ≤ maxLen) (hb : BlSt w v g N l) (hcp : w.cell? ⟨vp, 0, none⟩ = some (.func (.func 49) #[] #[])) (hcs : w.cell? ⟨vs, 0, none⟩ = some (.func (.func 48) #[] #[]))
    (h0 : 0 ≤ px) (h1 : px.toNat < N) (h2 : ∀ s ∈ r, s < 0 → (-1 - s).toNat < N) (st : List Bool × Bool) (hst : st = stepG livS 0 (px, r, py) l) :
    Calls Try.prog 71 #[.int .i64 i, .agg #[.int .i64 px, .slice A' n' c', .int .i64 py], .pointer (some ⟨v, 0, none⟩), .pointer (some ⟨vp, 0, none⟩), .pointer (some ⟨vs, 0, none⟩)] w fun e w' => e = .returned (.bool st.2) ∧ BlSt w' v g N st.1 ∧ Kp (fun k => k = g) w w' := by
  obtain ⟨t, rfl⟩ := Int.eq_ofNat_of_zero_le h0
  rw [Int.toNat_natCast] at h1
  have hb0 : Below w.heap.size w (w.alloc (.cells #[.int .i64 t, .slice A' n' c', .int .i64 py] 50)) := (Below.refl _ _).alloc (Nat.le_refl _) _
  have hs0 : (w.alloc (.cells #[.int .i64 t, .slice A' n' c', .int .i64 py] 50)).heap.size = w.heap.size + 1 := by simp
  have hgs := hb.b.lt
  have hS0 := hb.below hb0 hvs hgs
  have zv := hS0.c
  have zt := hS0.b.bcell (k := t) (by rw [hS0.l]; exact h1)
  have hst' : st = if bth l t || !(r.all (livS l)) then (l, false) else (l.set t true, true) := by rw [hst]; unfold stepG; simp only [Int.toNat_natCast]
  have hk0 : Kp (fun k => k = g) w (w.alloc (.cells #[.int .i64 t, .slice A' n' c', .int .i64 py] 50)) := (Kp.refl _ _).alloc _
  have hprod := allLives_any t r py A' n' c' (w.alloc (.cells #[.int .i64 t, .slice A' n' c', .int .i64 py] 50)) hm
  rw [hs0] at hprod
  have hm' := hm
  unfold maxLen at hm'
  have HS0 := Lib.hid hS0; have HP := Lib.hid hprod; have HK0 := Lib.hid hk0; have HB0 := Lib.hid hb0
  have zp := (hb0.cell (p := ⟨vp, 0, none⟩) hps).trans hcp
  have hcs0 := (hb0.cell (p := ⟨vs, 0, none⟩) hss).trans hcs
  have hr0 := (hr.more hB).below hb0
  have hkey : ∀ w4, Below (w.heap.size + 1) (w.alloc (.cells #[.int .i64 t, .slice A' n' c', .int .i64 py] 50)) w4 →
      Calls Try.prog 56 #[.slice A' n' c', .func (.func 72) #[] #[.pointer (some ⟨vs, 0, none⟩), .pointer (some ⟨v, 0, none⟩)]] w4 (fun e w' => e = .returned (.bool (r.any (fun s => !livS l s))) ∧ w4 = w') := fun w4 hb4 =>
    contains2 72 vs v (fun s => !livS l s) A' n' c' r w4 w.heap.size (fun _ _ => rfl) (hr0.below (hb4.mono (Nat.le_succ _))) hl hm (fun x hx =>
      innerLives_any x vs v g N l w4 hN ((hb4.cell (p := ⟨vs, 0, none⟩) (by simp; omega)).trans hcs0) (hS0.below hb4 (by omega) (by omega)) (h2 x hx))
  have HKEY := Lib.hid hkey
  have hall : r.any (fun s => !livS l s) = !(r.all (livS l)) := by rw [List.not_all_eq_any_not]
  rw [hall] at HKEY
  have HB := Lib.hid hb
  clear hst hcs0 hr0 hkey hall hS0 hprod hk0 hb0 hr hl hm h2 hcp hcs h0 hB
  generalize r.all (livS l) = al at hst' HKEY
  generalize bth l t = q at zt hst'
  cases q
  rotate_left
  · have HF : Hid (st = (l, false)) := Lib.hid (by rw [hst']; simp)
    clear hst'
    go_enter Try.func71, Try.ntmps71
    go_wp2
    go_ret
    rw [HF.out]
    exact ⟨rfl, HS0.out, HK0.out⟩
  cases al
  · have HF : Hid (st = (l, false)) := Lib.hid (by rw [hst']; simp)
    clear hst'
    go_enter Try.func71, Try.ntmps71
    go_wp2_with fail
    refine HP.out.mono ?_
    rintro e w4 ⟨rfl, hb4⟩
    have HC := Lib.hid (HKEY.out w4 hb4)
    have z41 := (hb4.cell (p := ⟨w.heap.size, 1, none⟩) (Nat.lt_succ_self _)).trans (show _ = some (.slice A' n' c') by simp)
    have HB4 := Lib.hid hb4
    clear hb4 HKEY HP
    go_wp2_with fail
    refine HC.out.mono ?_
    rintro e w5 ⟨rfl, rfl⟩
    go_wp2
    go_ret
    rw [HF.out]
    exact ⟨rfl, HS0.out.below HB4.out (by omega) (by omega), HK0.out.trans (Kp.of (by rw [hs0]; exact HB4.out))⟩
  · have HF : Hid (st = (l.set t true, true)) := Lib.hid (by rw [hst']; simp)
    clear hst'
    go_enter Try.func71, Try.ntmps71
    go_wp2_with fail
    refine HP.out.mono ?_
    rintro e w4 ⟨rfl, hb4⟩
    have HC := Lib.hid (HKEY.out w4 hb4)
    have z41 := (hb4.cell (p := ⟨w.heap.size, 1, none⟩) (Nat.lt_succ_self _)).trans (show _ = some (.slice A' n' c') by simp)
    have z40 := (hb4.cell (p := ⟨w.heap.size, 0, none⟩) (Nat.lt_succ_self _)).trans (show _ = some (.int .i64 (t : Int)) by simp)
    have hS4 := HS0.out.below hb4 (by omega) (by omega)
    have zv4 := hS4.c
    have zt4 := hS4.b.bcell (k := t) (by rw [hS4.l]; exact h1)
    have zf4 := hS4.b.frozen t
    generalize bth l t = q4 at zt4
    have HB4 := Lib.hid hb4; have HS4 := Lib.hid hS4
    clear hb4 HKEY HP hS4
    go_wp2_with fail
    refine HC.out.mono ?_
    rintro e w5 ⟨rfl, rfl⟩
    go_wp2
    go_ret
    rw [HF.out]
    have hk1 : Kp (fun k => k = g) w4 (w4.setCell ⟨g, t, none⟩ (.bool true)) := (Kp.refl (fun k => k = g) w4).set_ (p := ⟨g, t, none⟩) (.inr rfl) _
    have hw4 : w.heap.size ≤ w4.heap.size := by have := HB4.out.size; omega
    exact ⟨rfl, ⟨(hk1.cell (p := ⟨v, 0, none⟩) (by simp; omega) hvg).trans HS4.out.c, HS4.out.b.bset t true, by rw [List.length_set]; exact HS4.out.l⟩, (HK0.out.trans (Kp.of (by rw [hs0]; exact HB4.out))).trans hk1⟩


theorem allEmpty_any (px : Int) (r : List Int) (py : Int) (A' : Option Addr) (n' c' : Nat) (w : World) (hm : n' ≤ maxLen) :
    Calls Try.prog 55 #[.agg #[.int .i64 px, .slice A' n' c', .int .i64 py]] w fun e w' => e = .returned (.bool true) ∧ Below w.heap.size w w' := by
  have hb0 : Below w.heap.size w (w.alloc (.cells #[.int .i64 px, .slice A' n' c', .int .i64 py] 50)) := (Below.refl _ _).alloc (Nat.le_refl _) _
  unfold maxLen at hm
  go_enter Try.func55, Try.ntmps55
  go_wp2
  go_ret
  exact ⟨rfl, hb0⟩
theorem innerEmpty_any (x : Int) (vs v g N : Nat) (l : List Bool) (w : World) (hN : N ≤ 300) (hc : w.cell? ⟨vs, 0, none⟩ = some (.func (.func 54) #[] #[])) (h : BlSt w v g N l) (hx : x < 0 → (-1 - x).toNat < N) :
    Calls Try.prog 72 #[.int .i64 x, .pointer (some ⟨vs, 0, none⟩), .pointer (some ⟨v, 0, none⟩)] w fun e w' => e = .returned (.bool (!empS l x)) ∧ w = w' := by
  have HC := Lib.hid (empS_any x g N l w hN h.b h.l hx)
  have z := h.c
  clear h hx
  generalize empS l x = q at *
  go_enter Try.func72, Try.ntmps72
  go_wp2_with fail
  refine HC.out.mono ?_
  rintro e w' ⟨rfl, rfl⟩
  go_wp2
  go_ret
  exact ⟨rfl, rfl⟩
set_option maxHeartbeats 1000000 in
theorem grownEmpty_any (i : Int) (px : Int) (r : List Int) (py : Int) (A' : Option Addr) (n' c' v vp vs g N : Nat) (l : List Bool) (w : World) (B : Nat) (hB : B ≤ w.heap.size) (hvs : v < w.heap.size) (hvg : v ≠ g) (hps : vp < w.heap.size) (hss : vs < w.heap.size) (hN : N ≤ 300)
    (hr : RdI w B A' r) (hl : r.length = n') (hm : n' ≤ maxLen) (hb : BlSt w v g N l) (hcp : w.cell? ⟨vp, 0, none⟩ = some (.func (.func 55) #[] #[])) (hcs : w.cell? ⟨vs, 0, none⟩ = some (.func (.func 54) #[] #[]))
    (h0 : 0 ≤ px) (h1 : px.toNat < N) (h2 : ∀ s ∈ r, s < 0 → (-1 - s).toNat < N) (st : List Bool × Bool) (hst : st = stepG empS 0 (px, r, py) l) :
    Calls Try.prog 71 #[.int .i64 i, .agg #[.int .i64 px, .slice A' n' c', .int .i64 py], .pointer (some ⟨v, 0, none⟩), .pointer (some ⟨vp, 0, none⟩), .pointer (some ⟨vs, 0, none⟩)] w fun e w' => e = .returned (.bool st.2) ∧ BlSt w' v g N st.1 ∧ Kp (fun k => k = g) w w' := by
  obtain ⟨t, rfl⟩ := Int.eq_ofNat_of_zero_le h0
  rw [Int.toNat_natCast] at h1
  have hb0 : Below w.heap.size w (w.alloc (.cells #[.int .i64 t, .slice A' n' c', .int .i64 py] 50)) := (Below.refl _ _).alloc (Nat.le_refl _) _
  have hs0 : (w.alloc (.cells #[.int .i64 t, .slice A' n' c', .int .i64 py] 50)).heap.size = w.heap.size + 1 := by simp
  have hgs := hb.b.lt
  have hS0 := hb.below hb0 hvs hgs
  have zv := hS0.c
  have zt := hS0.b.bcell (k := t) (by rw [hS0.l]; exact h1)
  have hst' : st = if bth l t || !(r.all (empS l)) then (l, false) else (l.set t true, true) := by rw [hst]; unfold stepG; simp only [Int.toNat_natCast]
  have hk0 : Kp (fun k => k = g) w (w.alloc (.cells #[.int .i64 t, .slice A' n' c', .int .i64 py] 50)) := (Kp.refl _ _).alloc _
  have hprod := allEmpty_any t r py A' n' c' (w.alloc (.cells #[.int .i64 t, .slice A' n' c', .int .i64 py] 50)) hm
  rw [hs0] at hprod
  have hm' := hm
  unfold maxLen at hm'
  have HS0 := Lib.hid hS0; have HP := Lib.hid hprod; have HK0 := Lib.hid hk0; have HB0 := Lib.hid hb0
  have zp := (hb0.cell (p := ⟨vp, 0, none⟩) hps).trans hcp
  have hcs0 := (hb0.cell (p := ⟨vs, 0, none⟩) hss).trans hcs
  have hr0 := (hr.more hB).below hb0
  have hkey : ∀ w4, Below (w.heap.size + 1) (w.alloc (.cells #[.int .i64 t, .slice A' n' c', .int .i64 py] 50)) w4 →
      Calls Try.prog 56 #[.slice A' n' c', .func (.func 72) #[] #[.pointer (some ⟨vs, 0, none⟩), .pointer (some ⟨v, 0, none⟩)]] w4 (fun e w' => e = .returned (.bool (r.any (fun s => !empS l s))) ∧ w4 = w') := fun w4 hb4 =>
    contains2 72 vs v (fun s => !empS l s) A' n' c' r w4 w.heap.size (fun _ _ => rfl) (hr0.below (hb4.mono (Nat.le_succ _))) hl hm (fun x hx =>
      innerEmpty_any x vs v g N l w4 hN ((hb4.cell (p := ⟨vs, 0, none⟩) (by simp; omega)).trans hcs0) (hS0.below hb4 (by omega) (by omega)) (h2 x hx))
  have HKEY := Lib.hid hkey
  have hall : r.any (fun s => !empS l s) = !(r.all (empS l)) := by rw [List.not_all_eq_any_not]
  rw [hall] at HKEY
  have HB := Lib.hid hb
  clear hst hcs0 hr0 hkey hall hS0 hprod hk0 hb0 hr hl hm h2 hcp hcs h0 hB
  generalize r.all (empS l) = al at hst' HKEY
  generalize bth l t = q at zt hst'
  cases q
  rotate_left
  · have HF : Hid (st = (l, false)) := Lib.hid (by rw [hst']; simp)
    clear hst'
    go_enter Try.func71, Try.ntmps71
    go_wp2
    go_ret
    rw [HF.out]
    exact ⟨rfl, HS0.out, HK0.out⟩
  cases al
  · have HF : Hid (st = (l, false)) := Lib.hid (by rw [hst']; simp)
    clear hst'
    go_enter Try.func71, Try.ntmps71
    go_wp2_with fail
    refine HP.out.mono ?_
    rintro e w4 ⟨rfl, hb4⟩
    have HC := Lib.hid (HKEY.out w4 hb4)
    have z41 := (hb4.cell (p := ⟨w.heap.size, 1, none⟩) (Nat.lt_succ_self _)).trans (show _ = some (.slice A' n' c') by simp)
    have HB4 := Lib.hid hb4
    clear hb4 HKEY HP
    go_wp2_with fail
    refine HC.out.mono ?_
    rintro e w5 ⟨rfl, rfl⟩
    go_wp2
    go_ret
    rw [HF.out]
    exact ⟨rfl, HS0.out.below HB4.out (by omega) (by omega), HK0.out.trans (Kp.of (by rw [hs0]; exact HB4.out))⟩
  · have HF : Hid (st = (l.set t true, true)) := Lib.hid (by rw [hst']; simp)
    clear hst'
    go_enter Try.func71, Try.ntmps71
    go_wp2_with fail
    refine HP.out.mono ?_
    rintro e w4 ⟨rfl, hb4⟩
    have HC := Lib.hid (HKEY.out w4 hb4)
    have z41 := (hb4.cell (p := ⟨w.heap.size, 1, none⟩) (Nat.lt_succ_self _)).trans (show _ = some (.slice A' n' c') by simp)
    have z40 := (hb4.cell (p := ⟨w.heap.size, 0, none⟩) (Nat.lt_succ_self _)).trans (show _ = some (.int .i64 (t : Int)) by simp)
    have hS4 := HS0.out.below hb4 (by omega) (by omega)
    have zv4 := hS4.c
    have zt4 := hS4.b.bcell (k := t) (by rw [hS4.l]; exact h1)
    have zf4 := hS4.b.frozen t
    generalize bth l t = q4 at zt4
    have HB4 := Lib.hid hb4; have HS4 := Lib.hid hS4
    clear hb4 HKEY HP hS4
    go_wp2_with fail
    refine HC.out.mono ?_
    rintro e w5 ⟨rfl, rfl⟩
    go_wp2
    go_ret
    rw [HF.out]
    have hk1 : Kp (fun k => k = g) w4 (w4.setCell ⟨g, t, none⟩ (.bool true)) := (Kp.refl (fun k => k = g) w4).set_ (p := ⟨g, t, none⟩) (.inr rfl) _
    have hw4 : w.heap.size ≤ w4.heap.size := by have := HB4.out.size; omega
    exact ⟨rfl, ⟨(hk1.cell (p := ⟨v, 0, none⟩) (by simp; omega) hvg).trans HS4.out.c, HS4.out.b.bset t true, by rw [List.length_set]; exact HS4.out.l⟩, (HK0.out.trans (Kp.of (by rw [hs0]; exact HB4.out))).trans hk1⟩
end Go.Proofs.Ytgfchgnebpogjaa
