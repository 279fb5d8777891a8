/- A list gone through again and again: a step guarded by what is kept. grammar.settled with it. -/
import Derived.Test.YtgfchgnebpogjaaGrN
namespace Go.Proofs.Ytgfchgnebpogjaa
open Go.RowKit BigFrame
set_option linter.unusedVariables false
set_option linter.unusedSimpArgs false

section
variable {σ : Type} (step : Nat → Pr → σ → σ × Bool) (PS : List Pr) (Q : σ → Prop)
open Classical in
noncomputable def gd (k : Nat) (p : Pr) (x : σ) : σ × Bool := if PS[k]? = some p ∧ Q x then step k p x else (x, false)
variable {step} {PS} {Q}
theorem gd_pos {k : Nat} {p : Pr} {x : σ} (h : PS[k]? = some p) (hx : Q x) : gd step PS Q k p x = step k p x := if_pos ⟨h, hx⟩
theorem gd_pass (hQ : ∀ k p y, PS[k]? = some p → Q y → Q (step k p y).1) : ∀ (ps : List Pr) (i : Nat) (x : σ), (∀ k p, ps[k]? = some p → PS[i + k]? = some p) → Q x → passF (gd step PS Q) i ps x = passF step i ps x
  | [], i, x, _, _ => rfl
  | p :: ps, i, x, h, hx => by
    have h0 := h 0 p rfl
    rw [Nat.add_zero] at h0
    rw [passF, passF, gd_pos h0 hx, gd_pass hQ ps (i + 1) _ (fun k q hq => by rw [show i + 1 + k = i + (k + 1) from by omega]; exact h (k + 1) q (by simpa using hq)) (hQ i p x h0 hx)]
theorem gd_rounds (hQ : ∀ k p y, PS[k]? = some p → Q y → Q (step k p y).1) {x : σ} (hx : Q x) : ∀ n, rounds (gd step PS Q) PS n x = rounds step PS n x
  | 0 => rfl
  | n + 1 => by
    rw [rounds, rounds, gd_rounds hQ hx n, gd_pass hQ PS 0 _ (fun k p h => by rwa [Nat.zero_add]) (rounds_keep hQ hx n)]
theorem gd_done (hQ : ∀ k p y, PS[k]? = some p → Q y → Q (step k p y).1) {x : σ} (hx : Q x) (n : Nat) : passF (gd step PS Q) 0 PS (rounds (gd step PS Q) PS n x) = passF step 0 PS (rounds step PS n x) := by
  rw [gd_rounds hQ hx n, gd_pass hQ PS 0 _ (fun k p h => by rwa [Nat.zero_add]) (rounds_keep hQ hx n)]
theorem gd_same (hs : ∀ k p y, PS[k]? = some p → Q y → (step k p y).2 = false → (step k p y).1 = y) (k : Nat) (p : Pr) (x : σ) (h : (gd step PS Q k p x).2 = false) : (gd step PS Q k p x).1 = x := by
  unfold gd at h ⊢
  split
  · rename_i hc
    rw [if_pos hc] at h
    exact hs k p x hc.1 hc.2 h
  · rfl
/-- Where nothing is new, it is the same. -/
theorem gd_agree (hs : ∀ k p y, PS[k]? = some p → Q y → (step k p y).2 = false → (step k p y).1 = y) (hQ : ∀ k p y, PS[k]? = some p → Q y → Q (step k p y).1) {x : σ} (hx : Q x) {n m : Nat} (h1 : (passF step 0 PS (rounds step PS n x)).2 = false) (h2 : (passF step 0 PS (rounds step PS m x)).2 = false) :
    rounds step PS n x = rounds step PS m x := by
  rw [← gd_done hQ hx] at h1 h2
  rw [← gd_rounds hQ hx n, ← gd_rounds hQ hx m]
  have a := (rounds_fixed (gd_same hs) h1 (Nat.le_add_right n m)).1
  have b := (rounds_fixed (gd_same hs) h2 (Nat.le_add_left m n)).1
  rw [← a, ← b]
end
theorem settled3q {σ : Type} (fid : FuncId) (v0 v1 v2 : Nat) (step : Nat → Prd → σ → σ × Bool) (I : World → σ → Prop) (S : Nat → Prop) (Q : σ → Prop) (μ : σ → Nat) (B : Nat) (PS : List Prd) (Ap : Option Addr) (np cp : Nat)
    (hrun : ∀ args w, (callFunc fid args).run Try.prog w = .ok (.enter fid args) w)
    (hsame : ∀ k p y, PS[k]? = some p → Q y → (step k p y).2 = false → (step k p y).1 = y)
    (hQ : ∀ k p y, PS[k]? = some p → Q y → Q (step k p y).1 ∧ ((step k p y).2 = true → μ (step k p y).1 < μ y))
    (hkeep : ∀ w w' x, I w x → Below w.heap.size w w' → I w' x)
    (hS : ∀ k, S k → B ≤ k)
    (hcall : ∀ (k : Nat) (p : Prd) A' n' c' w x, PS[k]? = some p → Q x → I w x → B ≤ w.heap.size → RdI w B A' p.2.1 → p.2.1.length = n' → n' ≤ maxLen →
      Calls Try.prog fid #[.int .i64 k, .agg #[.int .i64 p.1, .slice A' n' c', .int .i64 p.2.2], .pointer (some ⟨v0, 0, none⟩), .pointer (some ⟨v1, 0, none⟩), .pointer (some ⟨v2, 0, none⟩)] w fun e w' => e = .returned (.bool (step k p x).2) ∧ I w' (step k p x).1 ∧ Kp S w w')
    (w : World) (x : σ) (hB : B ≤ w.heap.size) (hP : RdP w B Ap np cp PS) (hx : Q x) (hI : I w x) :
    Calls Try.prog 39 #[.slice Ap np cp, .func (.func fid) #[] #[.pointer (some ⟨v0, 0, none⟩), .pointer (some ⟨v1, 0, none⟩), .pointer (some ⟨v2, 0, none⟩)]] w fun e w' => e = .returned (.tuple #[]) ∧ ∃ n, I w' (rounds step PS n x) ∧ (passF step 0 PS (rounds step PS n x)).2 = false ∧ Kp S w w' := by
  refine (settled3 fid v0 v1 v2 (gd step PS Q) I S Q μ B PS Ap np cp hrun (gd_same hsame) (fun k p y hp hy => by rw [gd_pos hp hy]; exact hQ k p y hp hy) hkeep hS (fun k p A' n' c' w x hp hq => by rw [gd_pos hp hq]; exact hcall k p A' n' c' w x hp hq) w x hB hP hx hI).mono ?_
  rintro e w' ⟨rfl, n, h1, h2, h3⟩
  have hq := fun k p y hp hy => (hQ k p y hp hy).1
  rw [gd_done hq hx] at h2
  rw [gd_rounds hq hx] at h1
  exact ⟨rfl, n, h1, h2, h3⟩

theorem settled5q {σ : Type} (fid : FuncId) (v0 v1 v2 v3 v4 : Nat) (step : Nat → Prd → σ → σ × Bool) (I : World → σ → Prop) (S : Nat → Prop) (Q : σ → Prop) (μ : σ → Nat) (B : Nat) (PS : List Prd) (Ap : Option Addr) (np cp : Nat)
    (hrun : ∀ args w, (callFunc fid args).run Try.prog w = .ok (.enter fid args) w)
    (hsame : ∀ k p y, PS[k]? = some p → Q y → (step k p y).2 = false → (step k p y).1 = y)
    (hQ : ∀ k p y, PS[k]? = some p → Q y → Q (step k p y).1 ∧ ((step k p y).2 = true → μ (step k p y).1 < μ y))
    (hkeep : ∀ w w' x, I w x → Below w.heap.size w w' → I w' x)
    (hS : ∀ k, S k → B ≤ k)
    (hcall : ∀ (k : Nat) (p : Prd) A' n' c' w x, PS[k]? = some p → Q x → I w x → B ≤ w.heap.size → RdI w B A' p.2.1 → p.2.1.length = n' → n' ≤ maxLen →
      Calls Try.prog fid #[.int .i64 k, .agg #[.int .i64 p.1, .slice A' n' c', .int .i64 p.2.2], .pointer (some ⟨v0, 0, none⟩), .pointer (some ⟨v1, 0, none⟩), .pointer (some ⟨v2, 0, none⟩), .pointer (some ⟨v3, 0, none⟩), .pointer (some ⟨v4, 0, none⟩)] w fun e w' => e = .returned (.bool (step k p x).2) ∧ I w' (step k p x).1 ∧ Kp S w w')
    (w : World) (x : σ) (hB : B ≤ w.heap.size) (hP : RdP w B Ap np cp PS) (hx : Q x) (hI : I w x) :
    Calls Try.prog 39 #[.slice Ap np cp, .func (.func fid) #[] #[.pointer (some ⟨v0, 0, none⟩), .pointer (some ⟨v1, 0, none⟩), .pointer (some ⟨v2, 0, none⟩), .pointer (some ⟨v3, 0, none⟩), .pointer (some ⟨v4, 0, none⟩)]] w fun e w' => e = .returned (.tuple #[]) ∧ ∃ n, I w' (rounds step PS n x) ∧ (passF step 0 PS (rounds step PS n x)).2 = false ∧ Kp S w w' := by
  refine (settled5 fid v0 v1 v2 v3 v4 (gd step PS Q) I S Q μ B PS Ap np cp hrun (gd_same hsame) (fun k p y hp hy => by rw [gd_pos hp hy]; exact hQ k p y hp hy) hkeep hS (fun k p A' n' c' w x hp hq => by rw [gd_pos hp hq]; exact hcall k p A' n' c' w x hp hq) w x hB hP hx hI).mono ?_
  rintro e w' ⟨rfl, n, h1, h2, h3⟩
  have hq := fun k p y hp hy => (hQ k p y hp hy).1
  rw [gd_done hq hx] at h2
  rw [gd_rounds hq hx] at h1
  exact ⟨rfl, n, h1, h2, h3⟩
end Go.Proofs.Ytgfchgnebpogjaa
