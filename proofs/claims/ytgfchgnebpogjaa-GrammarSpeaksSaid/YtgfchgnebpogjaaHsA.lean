/- A chart in memory; symbolStands. -/
import Derived.Test.YtgfchgnebpogjaaHsP
import Derived.Test.YtgfchgnebpogjaaRTb
namespace Go.Proofs.Ytgfchgnebpogjaa
open Go.RowKit BigFrame
set_option linter.unusedVariables false
set_option linter.unusedSimpArgs false
set_option maxRecDepth 100000

/-- The chart m in memory, from block B on: N tables of S rows of S truths. -/
structure Cu (w : World) (B C N S : Nat) (δ γ : Nat → Nat) (ρ : Nat → Nat → Nat) (m : Ch) : Prop where
  hS : 0 < S
  hN : 0 < N
  c : ∀ i, i < N → w.cell? ⟨C, i, none⟩ = some (.slice (some ⟨δ i, 0, none⟩) S (γ i))
  g : ∀ i, i < N → S ≤ γ i ∧ γ i ≤ maxLen
  d : ∀ i f, i < N → f < S → w.cell? ⟨δ i, f, none⟩ = some (.slice (some ⟨ρ i f, 0, none⟩) S S)
  r : ∀ i f t, i < N → f < S → t < S → w.cell? ⟨ρ i f, t, none⟩ = some (.bool (m i f t))
  z : ∀ i f t, i < N → f < S → t < S → w.frozen? ⟨ρ i f, t, none⟩ = false
  inj : ∀ i f j g, i < N → f < S → j < N → g < S → ρ i f = ρ j g → i = j ∧ f = g
  lC : B ≤ C
  lD : ∀ i, i < N → B ≤ δ i
  lR : ∀ i f, i < N → f < S → B ≤ ρ i f
  uC : C < w.heap.size
  uD : ∀ i, i < N → δ i < w.heap.size
  uR : ∀ i f, i < N → f < S → ρ i f < w.heap.size
section
variable {w w' : World} {B C N S : Nat} {δ γ : Nat → Nat} {ρ : Nat → Nat → Nat} {m : Ch}
theorem Cu.below (h : Cu w B C N S δ γ ρ m) (hb : Below w.heap.size w w') : Cu w' B C N S δ γ ρ m :=
  ⟨h.hS, h.hN, fun i hi => (hb.cell (p := ⟨C, i, none⟩) h.uC).trans (h.c i hi), h.g, fun i f hi hf => (hb.cell (p := ⟨δ i, f, none⟩) (h.uD i hi)).trans (h.d i f hi hf),
   fun i f t hi hf ht => (hb.cell (p := ⟨ρ i f, t, none⟩) (h.uR i f hi hf)).trans (h.r i f t hi hf ht), fun i f t hi hf ht => (hb.frozen (p := ⟨ρ i f, t, none⟩) (h.uR i f hi hf)).trans (h.z i f t hi hf ht),
   h.inj, h.lC, h.lD, h.lR, Nat.lt_of_lt_of_le h.uC hb.size, fun i hi => Nat.lt_of_lt_of_le (h.uD i hi) hb.size, fun i f hi hf => Nat.lt_of_lt_of_le (h.uR i f hi hf) hb.size⟩
theorem Cu.neC (h : Cu w B C N S δ γ ρ m) {i f : Nat} (hi : i < N) (hf : f < S) : ρ i f ≠ C := fun e => by
  have h1 := h.r i f 0 hi hf h.hS
  have h2 := h.c 0 h.hN
  rw [e, h2] at h1
  cases h1
theorem Cu.neD (h : Cu w B C N S δ γ ρ m) {i f j : Nat} (hi : i < N) (hf : f < S) (hj : j < N) : ρ i f ≠ δ j := fun e => by
  have h1 := h.r i f 0 hi hf h.hS
  have h2 := h.d j 0 hj h.hS
  rw [e, h2] at h1
  cases h1
theorem addr_ne {a b c d : Nat} (h : a ≠ c ∨ b ≠ d) : (⟨a, b, none⟩ : Addr) ≠ ⟨c, d, none⟩ := fun e => by
  injection e with e1 e2
  rcases h with h | h
  · exact h e1
  · exact h e2
theorem Cu.set_ (h : Cu w B C N S δ γ ρ m) {X f t : Nat} (hX : X < N) (hf : f < S) (ht : t < S) : Cu (w.setCell ⟨ρ X f, t, none⟩ (.bool true)) B C N S δ γ ρ (upd m X f t) := by
  have hs : (w.setCell ⟨ρ X f, t, none⟩ (.bool true)).heap.size = w.heap.size := setCell_size _ _ _
  refine ⟨h.hS, h.hN, fun i hi => ?_, h.g, fun i a hi ha => ?_, fun i a b hi ha hb => ?_, fun i a b hi ha hb => ?_, h.inj, h.lC, h.lD, h.lR, by rw [hs]; exact h.uC, fun i hi => by rw [hs]; exact h.uD i hi, fun i a hi ha => by rw [hs]; exact h.uR i a hi ha⟩
  · rw [World.cell?_setCell_other (h := addr_ne (.inl (h.neC hX hf)))]; exact h.c i hi
  · rw [World.cell?_setCell_other (h := addr_ne (.inl (h.neD hX hf hi)))]; exact h.d i a hi ha
  · unfold upd
    by_cases e : i = X ∧ a = f ∧ b = t
    · obtain ⟨rfl, rfl, rfl⟩ := e
      rw [if_pos ⟨rfl, rfl, rfl⟩]
      exact World.cell?_setCell_same _ _ _ (h.r i a b hi ha hb)
    · rw [if_neg e, World.cell?_setCell_other (h := addr_ne ?_)]
      · exact h.r i a b hi ha hb
      · by_cases e2 : ρ X f = ρ i a
        · obtain ⟨rfl, rfl⟩ := h.inj X f i a hX hf hi ha e2
          exact .inr (fun q => e ⟨rfl, rfl, q.symm⟩)
        · exact .inl e2
  · rw [World.frozen?_setCell]; exact h.z i a b hi ha hb
theorem Cu.congr {m' : Ch} (h : Cu w B C N S δ γ ρ m) (e : m = m') : Cu w B C N S δ γ ρ m' := e ▸ h
end

/-- A slice of integers read at one place. -/
theorem RdI.get {w : World} {B : Nat} {A : Option Addr} {l : List Int} (h : RdI w B A l) {k : Nat} (hk : k < l.length) :
    ∃ b off, A = some ⟨b, off, none⟩ ∧ b < B ∧ w.cell? ⟨b, off + k, none⟩ = some (.int .i64 (nth l k)) := by
  obtain ⟨b, off, e, hb, hc⟩ := h.at_ (by omega)
  exact ⟨b, off, e, hb, hc k hk⟩

set_option maxHeartbeats 1000000 in
theorem symSt_any (B C N S cC : Nat) (δ γ : Nat → Nat) (ρ : Nat → Nat → Nat) (m : Ch) (Ai : Option Addr) (ni ci Bi : Nat) (inp : List Int) (s : Int) (f t : Nat) (w : World) (hM : Cu w B C N S δ γ ρ m) (hcN : N ≤ cC) (hcC : cC ≤ maxLen)
    (hi : RdI w Bi Ai inp) (hil : inp.length = ni) (hni : ni ≤ 1000) (hS : S = ni + 1) (hs : s < 0 → (-1 - s).toNat < N) (hN : N ≤ 1000) (hf : f ≤ t) (ht : t ≤ ni) (b : Bool) (hb : b = true ↔ Sy m inp s f t) :
    Calls Try.prog 79 #[.slice (some ⟨C, 0, none⟩) N cC, .slice Ai ni ci, .int .i64 s, .int .i64 (f : Int), .int .i64 (t : Int)] w fun e w' => e = .returned (.bool b) ∧ w = w' := by
  unfold Sy at hb
  by_cases h0 : s < 0
  · rw [if_pos h0] at hb
    have hX := hs h0
    obtain ⟨X, hX1⟩ : ∃ X : Nat, X = (-1 - s).toNat := ⟨_, rfl⟩
    rw [← hX1] at hX hb
    have hts : -1 - s = (X : Int) := by omega
    have z1 := hM.c X hX
    obtain ⟨g1, g2⟩ := hM.g X hX
    have z2 := hM.d X f hX (by omega)
    have z3 := hM.r X f t hX (by omega) (by omega)
    have hbm : m X f t = b := Bool.eq_iff_iff.2 hb.symm
    rw [hbm] at z3
    have d2 : decide (0 ≤ s) = false := decide_eq_false (by omega)
    unfold maxLen at hcC g2
    clear hb hM hbm hX1 hs hi
    go_enter Try.func79, Try.ntmps79
    go_wp2
    go_ret
    exact ⟨rfl, rfl⟩
  · rw [if_neg h0] at hb
    have d2 : decide (0 ≤ s) = true := decide_eq_true (by omega)
    by_cases h1 : t = f + 1
    · subst h1
      obtain ⟨b', off', rfl, hb', z1⟩ := hi.get (k := f) (by omega)
      have hbm : b = decide (nth inp f = s) := by
        cases b
        · symm; rw [decide_eq_false_iff_not]; intro e; exact absurd (hb.2 ⟨rfl, e⟩) (by simp)
        · symm; rw [decide_eq_true_eq]; exact (hb.1 rfl).2
      have hd : (((f + 1 : Nat) : Int) == (f : Int) + 1) = true := by simp
      generalize nth inp f = v at z1 hbm
      have HBM := Lib.hid hbm
      have hcast : ((f + 1 : Nat) : Int) = (f : Int) + 1 := by omega
      clear hb hM hbm hs hi
      rw [hcast]
      go_enter Try.func79, Try.ntmps79
      go_wp2
      go_ret
      exact ⟨by rw [HBM.out]; rfl, rfl⟩
    · have hbm : b = false := by
        cases b
        · rfl
        · exact absurd (hb.1 rfl).1 h1
      subst hbm
      have hd : ((t : Int) == (f : Int) + 1) = false := by rw [beq_eq_false_iff_ne]; omega
      clear hb hM hs hi
      go_enter Try.func79, Try.ntmps79
      go_wp2
      go_ret
      exact ⟨rfl, rfl⟩
end Go.Proofs.Ytgfchgnebpogjaa
