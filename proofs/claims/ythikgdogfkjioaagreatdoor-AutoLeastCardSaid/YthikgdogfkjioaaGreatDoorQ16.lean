/- Plain: ranges apart that cover all points, in order, stand one behind the other. No program here. · Plain: an automaton of parts stands for what can be come to; tables and lists of what lives, step by step. No program here. -/
import Derived.Test.YthikgdogfkjioaaGreatDoorQ15
namespace Go.Proofs.YthikgdogfkjioaaGreatDoor
set_option linter.unusedVariables false
set_option linter.unusedSimpArgs false

/-- Ranges in order, apart, that cover all from a to b and no more. -/
structure Cover (a b : Int) (L : List Rg) : Prop where
  ok : ∀ r ∈ L, a ≤ r.1 ∧ r.1 ≤ r.2 ∧ r.2 ≤ b
  asc : L.Pairwise fun r s => r.1 ≤ s.1
  dis : L.Pairwise fun r s => ∀ p, ¬ ((r.1 ≤ p ∧ p ≤ r.2) ∧ (s.1 ≤ p ∧ p ≤ s.2))
  all : ∀ p, a ≤ p → p ≤ b → ∃ r ∈ L, r.1 ≤ p ∧ p ≤ r.2
theorem Cover.tiles : ∀ {L : List Rg} {a b : Int}, a ≤ b + 1 → Cover a b L → Tiles a L b
  | [], a, b, hab, h => by
    have e : b = a - 1 := by
      apply Classical.byContradiction
      intro q
      obtain ⟨r, hr, _⟩ := h.all a (Int.le_refl _) (by omega)
      cases hr
    subst e
    exact Tiles.nil a
  | (lo, hi) :: L, a, b, hab, h => by
    obtain ⟨o1, o2, o3⟩ := h.ok (lo, hi) (List.mem_cons_self ..)
    simp only at o1 o2 o3
    have hasc := List.pairwise_cons.1 h.asc
    have hdis := List.pairwise_cons.1 h.dis
    have e : lo = a := by
      obtain ⟨r, hr, h1, h2⟩ := h.all a (Int.le_refl _) (by omega)
      rcases List.mem_cons.1 hr with rfl | q
      · simp only at h1; omega
      · have := hasc.1 r q
        simp only at this
        omega
    subst e
    have hbeh : ∀ r ∈ L, hi + 1 ≤ r.1 := fun r hr => by
      have h1 := hasc.1 r hr
      have h2 := hdis.1 r hr r.1
      have h3 := h.ok r (List.mem_cons_of_mem _ hr)
      simp only at h1 h2
      apply Classical.byContradiction
      intro q
      exact h2 ⟨⟨h1, by omega⟩, ⟨Int.le_refl _, h3.2.1⟩⟩
    refine Tiles.cons o2 (Cover.tiles (by omega) ⟨fun r hr => ⟨hbeh r hr, (h.ok r (List.mem_cons_of_mem _ hr)).2⟩, hasc.2, hdis.2, fun p h1 h2 => ?_⟩)
    obtain ⟨r, hr, k1, k2⟩ := h.all p (by omega) h2
    rcases List.mem_cons.1 hr with rfl | q
    · simp only at k2; omega
    · exact ⟨r, q, k1, k2⟩
/-- Points between two neighbours of a list in order that has all edges lie in the same sets. -/
structure Edged (e : List Int) (C : List (List Rg)) : Prop where
  asc : e.Pairwise fun x y => x < y
  lo : ∀ c ∈ C, ∀ r ∈ c, r.1 ∈ e
  hi : ∀ c ∈ C, ∀ r ∈ c, r.2 + 1 ∈ e
theorem between {e : List Int} (h : e.Pairwise fun x y => x < y) {k : Nat} (hk : k + 1 < e.length) {x : Int} (hx : x ∈ e) : ¬ (e[k] < x ∧ x < e[k + 1]) := by
  obtain ⟨i, hi, rfl⟩ := List.getElem_of_mem hx
  have hp := List.pairwise_iff_getElem.1 h
  rintro ⟨h1, h2⟩
  rcases Nat.lt_or_ge k i with q | q
  · rcases Nat.lt_or_ge (k + 1) i with r | r
    · have := hp _ _ hk hi r; omega
    · have : i = k + 1 := by omega
      subst this; omega
  · rcases Nat.lt_or_ge i k with r | r
    · have := hp _ _ hi (by omega) r; omega
    · have : i = k := by omega
      subst this; omega
theorem Edged.same {e : List Int} {C : List (List Rg)} (h : Edged e C) {k : Nat} (hk : k + 1 < e.length) {p : Int} (h1 : e[k] ≤ p) (h2 : p < e[k + 1]) {c : List Rg} (hc : c ∈ C) : memR c p = memR c e[k] := by
  unfold memR
  refine Bool.eq_iff_iff.2 ?_
  simp only [List.any_eq_true, Bool.and_eq_true, decide_eq_true_eq]
  constructor
  · rintro ⟨r, hr, q1, q2⟩
    have b1 := between h.asc hk (h.lo c hc r hr)
    exact ⟨r, hr, by omega, by omega⟩
  · rintro ⟨r, hr, q1, q2⟩
    have b2 := between h.asc hk (h.hi c hc r hr)
    exact ⟨r, hr, by omega, by omega⟩
theorem Edged.cls {e : List Int} {C : List (List Rg)} (h : Edged e C) {k : Nat} (hk : k + 1 < e.length) {p : Int} (h1 : e[k] ≤ p) (h2 : p < e[k + 1]) : clsOf C p = clsOf C e[k] := by
  unfold clsOf
  have : ∀ D : List (List Rg), (∀ c ∈ D, c ∈ C) → (D.findIdx fun c => memR c p) = D.findIdx fun c => memR c e[k] := by
    intro D
    induction D with
    | nil => intro _; rfl
    | cons c D ih =>
      intro hD
      rw [List.findIdx_cons, List.findIdx_cons, h.same hk h1 h2 (hD c (List.mem_cons_self ..)), ih fun x hx => hD x (List.mem_cons_of_mem _ hx)]
  exact this C fun _ hc => hc
/-- The stretches between neighbours. -/
def stretches : List Int → List (Int × Int)
  | [] => []
  | [_] => []
  | x :: y :: r => (x, y - 1) :: stretches (y :: r)
theorem stretches_tiles : ∀ {e : List Int} {x : Int}, (x :: e).Pairwise (fun x y => x < y) → Tiles x (stretches (x :: e)) (((x :: e).getLast (by simp)) - 1)
  | [], x, _ => Tiles.nil x
  | y :: r, x, h => by
    have h1 := List.pairwise_cons.1 h
    have h2 := h1.1 y (List.mem_cons_self ..)
    have h3 := stretches_tiles h1.2
    rw [List.getLast_cons (by simp)]
    refine Tiles.cons (by omega) ?_
    rw [show y - 1 + 1 = y by omega]
    exact h3
theorem stretches_at : ∀ {e : List Int} {pc : Int × Int}, pc ∈ stretches e → ∃ k, ∃ hk : k + 1 < e.length, pc = (e[k], e[k + 1] - 1)
  | [], _, h => by cases h
  | [_], _, h => by cases h
  | x :: y :: r, pc, h => by
    rcases List.mem_cons.1 h with rfl | q
    · exact ⟨0, by simp, rfl⟩
    · obtain ⟨k, hk, e⟩ := stretches_at q
      exact ⟨k + 1, by simpa using hk, by simpa using e⟩
end Go.Proofs.YthikgdogfkjioaaGreatDoor
namespace Go.Proofs.YthikgdogfkjioaaGreatDoor
set_option linter.unusedVariables false
set_option linter.unusedSimpArgs false

section
variable {rule : Nat → Int} {mv : Nat → Nat → Nat} {K m : Nat} {o at_ : Nat → Nat} {part : Nat → Nat}
/-- Part k stands for state s. -/
def StandsFor (m : Nat) (o part : Nat → Nat) (k s : Nat) : Prop := ∃ i, i < m ∧ o i = s ∧ part i = k
/-- The first of a part. -/
def fstOf (m : Nat) (part : Nat → Nat) (k : Nat) : Nat := (List.range m).findIdx fun i => part i == k
theorem fstOf_spec {i : Nat} (hi : i < m) : fstOf m part (part i) < m ∧ part (fstOf m part (part i)) = part i := by
  have hlt : fstOf m part (part i) < (List.range m).length := List.findIdx_lt_length_of_exists ⟨i, List.mem_range.2 hi, by simp⟩
  have h := List.findIdx_getElem (xs := List.range m) (p := fun j => part j == part i) (w := hlt)
  have h2 : part ((List.range m)[fstOf m part (part i)]'hlt) = part i := eq_of_beq h
  have h3 : (List.range m)[fstOf m part (part i)]'hlt = fstOf m part (part i) := List.getElem_range hlt
  exact ⟨by rw [List.length_range] at hlt; exact hlt, (congrArg part h3).symm.trans h2⟩
structure PartsR (rule : Nat → Int) (mv : Nat → Nat → Nat) (K m : Nat) (o at_ part : Nat → Nat) : Prop where
  at_ : ∀ i c, i < m → c < K → at_ (mv (o i) c) < m ∧ o (at_ (mv (o i) c)) = mv (o i) c
  iff : ∀ i j, i < m → j < m → (part i = part j ↔ Eqv rule mv (· < K) (o i) (o j))
theorem PartsR.ru (h : PartsR rule mv K m o at_ part) {k s : Nat} (hR : StandsFor m o part k s) : rule (o (fstOf m part k)) = rule s := by
  obtain ⟨i, hi, rfl, rfl⟩ := hR
  obtain ⟨h1, h2⟩ := fstOf_spec (part := part) hi
  exact ((h.iff _ _ h1 hi).1 h2).ru
theorem PartsR.step (h : PartsR rule mv K m o at_ part) {k s c : Nat} (hR : StandsFor m o part k s) (hc : c < K) : StandsFor m o part (part (at_ (mv (o (fstOf m part k)) c))) (mv s c) := by
  obtain ⟨i, hi, rfl, rfl⟩ := hR
  obtain ⟨h1, h2⟩ := fstOf_spec (part := part) hi
  have he := ((h.iff _ _ h1 hi).1 h2).st hc
  obtain ⟨a1, a2⟩ := h.at_ i c hi hc
  obtain ⟨b1, b2⟩ := h.at_ _ c h1 hc
  exact ⟨_, a1, a2, (h.iff _ _ a1 b1).2 (by rw [a2, b2]; exact he.symm)⟩
theorem PartsR.same (h : PartsR rule mv K m o at_ part) {k s k' s' : Nat} (hR : StandsFor m o part k s) (hR' : StandsFor m o part k' s') : k = k' ↔ Eqv rule mv (· < K) s s' := by
  obtain ⟨i, hi, rfl, rfl⟩ := hR
  obtain ⟨j, hj, rfl, rfl⟩ := hR'
  exact h.iff i j hi hj
end

/-! ### the document's table of what differs -/
section
variable (rule : Nat → Int) (mv : Nat → Nat → Nat) (K n : Nat)
structure ApI (d : Nat → Nat → Bool) : Prop where
  sym : ∀ s t, s < n → t < n → d s t = d t s
  diag : ∀ s, s < n → d s s = false
  base : ∀ s t, s < n → t < n → rule s ≠ rule t → d s t = true
  sound : ∀ s t, s < n → t < n → d s t = true → ¬ Eqv rule mv (· < K) s t
variable {rule mv K n}
theorem ApI.start : ApI rule mv K n (fun s t => decide (rule s ≠ rule t)) :=
  ⟨fun s t _ _ => by simp only [ne_eq, eq_comm], fun s _ => by simp, fun s t _ _ h => by simpa using h, fun s t _ _ h e => by simp at h; exact h e.ru⟩
/-- The table with a pair marked, both ways. -/
def mark (d : Nat → Nat → Bool) (i k : Nat) : Nat → Nat → Bool := fun s t => if (s = i ∧ t = k) ∨ (s = k ∧ t = i) then true else d s t
theorem ApI.mark {d : Nat → Nat → Bool} (h : ApI rule mv K n d) {i k c : Nat} (hi : i < n) (hk : k < i) (hmv : ∀ s c, s < n → c < K → mv s c < n) (hc : c < K) (hd : d (mv i c) (mv k c) = true) : ApI rule mv K n (mark d i k) := by
  have hne : ¬ Eqv rule mv (· < K) i k := fun e => h.sound _ _ (hmv i c hi hc) (hmv k c (by omega) hc) hd (e.st hc)
  refine ⟨fun s t hs ht => ?_, fun s hs => ?_, fun s t hs ht hr => ?_, fun s t hs ht hm e => ?_⟩
  · unfold Go.Proofs.YthikgdogfkjioaaGreatDoor.mark
    by_cases q : (s = i ∧ t = k) ∨ (s = k ∧ t = i)
    · rw [if_pos q, if_pos (by omega)]
    · rw [if_neg q, if_neg (by omega)]; exact h.sym s t hs ht
  · unfold Go.Proofs.YthikgdogfkjioaaGreatDoor.mark
    rw [if_neg (by omega)]; exact h.diag s hs
  · unfold Go.Proofs.YthikgdogfkjioaaGreatDoor.mark
    split
    · rfl
    · exact h.base s t hs ht hr
  · unfold Go.Proofs.YthikgdogfkjioaaGreatDoor.mark at hm
    split at hm
    · rename_i q
      rcases q with ⟨rfl, rfl⟩ | ⟨rfl, rfl⟩
      · exact hne e
      · exact hne e.symm
    · exact h.sound s t hs ht hm e
theorem ApI.done {d : Nat → Nat → Bool} (h : ApI rule mv K n d) (hmv : ∀ s c, s < n → c < K → mv s c < n) (h2 : ∀ s t c, s < n → t < s → c < K → d (mv s c) (mv t c) = true → d s t = true) {s t : Nat} (hs : s < n) (ht : t < n) : d s t = false ↔ Eqv rule mv (· < K) s t :=
  apart_iff hmv h.sym h.diag h.base h2 h.sound hs ht
/-- How many pairs are not marked. -/
def leftD (n : Nat) (d : Nat → Nat → Bool) : Nat := ((List.range n).map fun s => ((List.range n).countP fun t => !d s t)).sum
end
end Go.Proofs.YthikgdogfkjioaaGreatDoor
