/- Plain: classes of points under sets. No program here. -/
import Derived.Test.YtihfdmjejllhnaaRgQ
namespace Go.Proofs.Ytihfdmjejllhnaa
set_option linter.unusedVariables false
set_option linter.unusedSimpArgs false

/-- Which of the sets hold a point. -/
def sig (S : List (List Rg)) (p : Int) : List Bool := S.map fun s => inR s p
theorem sig_snoc {S : List (List Rg)} {s : List Rg} {p q : Int} : sig (S ++ [s]) p = sig (S ++ [s]) q ↔ sig S p = sig S q ∧ inR s p = inR s q := by
  unfold sig
  rw [List.map_append, List.map_append]
  constructor
  · intro h
    have hl : (S.map fun s => inR s p).length = (S.map fun s => inR s q).length := by simp
    obtain ⟨h1, h2⟩ := List.append_inj h hl
    exact ⟨h1, by simpa using h2⟩
  · rintro ⟨h1, h2⟩
    rw [h1]; simp [h2]
/-- A class: the points like one. -/
def clP (S : List (List Rg)) (p q : Int) : Bool := isPt q && decide (sig S q = sig S p)
def IsCl (S : List (List Rg)) (c : List Rg) : Prop := ∃ p, isPt p = true ∧ IsCan c (clP S p)
def fstR (c : List Rg) : Int := (c.headD (0, 0)).1
structure Parted (S C : List (List Rg)) : Prop where
  each : ∀ c ∈ C, IsCl S c
  all : ∀ p, isPt p = true → ∃ c ∈ C, memR c p = true
  asc : C.Pairwise fun a b => fstR a < fstR b
theorem same_sorted {α : Type} {f : α → Int} : ∀ {C D : List α}, C.Pairwise (fun a b => f a < f b) → D.Pairwise (fun a b => f a < f b) → (∀ c, c ∈ C ↔ c ∈ D) → C = D
  | [], [], _, _, _ => rfl
  | [], d :: D, _, _, h => absurd ((h d).2 (List.mem_cons_self ..)) (by simp)
  | c :: C, [], _, _, h => absurd ((h c).1 (List.mem_cons_self ..)) (by simp)
  | c :: C, d :: D, hC, hD, h => by
    rw [List.pairwise_cons] at hC hD
    have e : c = d := by
      rcases List.mem_cons.1 ((h c).1 (List.mem_cons_self ..)) with q | q
      · exact q
      · rcases List.mem_cons.1 ((h d).2 (List.mem_cons_self ..)) with q2 | q2
        · exact q2.symm
        · have := hD.1 c q; have := hC.1 d q2; omega
    subst e
    congr 1
    refine same_sorted hC.2 hD.2 fun x => ⟨fun hx => ?_, fun hx => ?_⟩
    · rcases List.mem_cons.1 ((h x).1 (List.mem_cons_of_mem _ hx)) with q | q
      · subst q; have := hC.1 _ hx; omega
      · exact q
    · rcases List.mem_cons.1 ((h x).2 (List.mem_cons_of_mem _ hx)) with q | q
      · subst q; have := hD.1 _ hx; omega
      · exact q
theorem IsCl.eq {S : List (List Rg)} {c d : List Rg} {p : Int} (hc : IsCl S c) (hd : IsCl S d) (h1 : memR c p = true) (h2 : memR d p = true) : c = d := by
  obtain ⟨x, hx, kx⟩ := hc
  obtain ⟨y, hy, ky⟩ := hd
  rw [kx.mem] at h1
  rw [ky.mem] at h2
  unfold clP at h1 h2
  simp only [Bool.and_eq_true, decide_eq_true_eq] at h1 h2
  exact kx.same ky fun q => by unfold clP; rw [← h1.2, ← h2.2]
theorem IsCl.self {S : List (List Rg)} {c : List Rg} (hc : IsCl S c) : ∃ p, isPt p = true ∧ memR c p = true := by
  obtain ⟨x, hx, kx⟩ := hc
  exact ⟨x, hx, by rw [kx.mem]; unfold clP; simp [hx]⟩
/-- There is one such list. -/
theorem Parted.same {S C D : List (List Rg)} (h : Parted S C) (k : Parted S D) : C = D := by
  have half : ∀ {C D : List (List Rg)}, Parted S C → Parted S D → ∀ c, c ∈ C → c ∈ D := fun h k c hc => by
    obtain ⟨p, hp, hm⟩ := (h.each c hc).self
    obtain ⟨d, hd, hm2⟩ := k.all p hp
    rw [(h.each c hc).eq (k.each d hd) hm hm2]
    exact hd
  exact same_sorted h.asc k.asc fun c => ⟨half h k c, half k h c⟩

/-! ### the first point of a canonical set -/
theorem can_ne {c : List Rg} {p : Int} (h : memR c p = true) : c ≠ [] := fun e => by rw [e] at h; cases h
theorem fst_mem {c : List Rg} (h : Can c) (hne : c ≠ []) : memR c (fstR c) = true ∧ ∀ p, memR c p = true → fstR c ≤ p := by
  match c, h, hne with
  | (a, b) :: t, h, _ =>
    obtain ⟨h1, h2, h3, h4⟩ := h
    refine ⟨by rw [memR_cons]; simp [fstR]; exact .inl h2, fun p hp => ?_⟩
    rw [memR_cons] at hp
    simp only [Bool.or_eq_true, Bool.and_eq_true, decide_eq_true_eq] at hp
    show a ≤ p
    rcases hp with q | q
    · exact q.1
    · have := (CanF.le h4 q).1; omega

/-! ### the program: classes made finer, set by set -/
def Disj (a b : List Rg) : Prop := ∀ p, memR a p = true → memR b p = true → False
structure Part (S C : List (List Rg)) : Prop where
  each : ∀ c ∈ C, IsCl S c
  all : ∀ p, isPt p = true → ∃ c ∈ C, memR c p = true
  dis : C.Pairwise Disj
theorem Part.start : Part [] [[(0, 1114111)]] :=
  ⟨fun c hc => by
    rw [List.mem_singleton] at hc
    subst hc
    exact ⟨0, by decide, ⟨by unfold Can CanF; simp [CanF, MP], fun p => by unfold clP sig memR isPt MP; simp⟩⟩,
   fun p hp => ⟨_, List.mem_singleton.2 rfl, by unfold isPt MP at hp; simpa [memR] using hp⟩, List.pairwise_singleton _ _⟩
/-- The classes' parts so far. -/
structure Ref (s : List Rg) (C N : List (List Rg)) : Prop where
  each : ∀ d ∈ N, d ≠ [] ∧ ∃ c ∈ C, ∃ b : Bool, IsCan d (fun p => memR c p && (inR s p == b))
  all : ∀ c ∈ C, ∀ p, memR c p = true → ∃ d ∈ N, memR d p = true
  dis : N.Pairwise Disj
theorem Ref.start {s : List Rg} : Ref s [] [] := ⟨fun d hd => (by cases hd), fun c hc => (by cases hc), List.Pairwise.nil⟩
def keepN (d : List Rg) : List (List Rg) := if d = [] then [] else [d]
theorem mem_keepN {d x : List Rg} : x ∈ keepN d ↔ x = d ∧ d ≠ [] := by
  unfold keepN
  split
  · rename_i h; subst h; simp
  · rename_i h; simp [h]
theorem Ref.step {s : List Rg} {C N : List (List Rg)} {c d1 d2 : List Rg} (h : Ref s C N) (hd : ∀ x ∈ C, Disj x c)
    (h1 : IsCan d1 (fun p => memR c p && inR s p)) (h2 : IsCan d2 (fun p => memR c p && !inR s p)) : Ref s (C ++ [c]) (N ++ keepN d1 ++ keepN d2) := by
  have e1 : IsCan d1 (fun p => memR c p && (inR s p == true)) := h1.congr fun p => by simp
  have e2 : IsCan d2 (fun p => memR c p && (inR s p == false)) := h2.congr fun p => by cases inR s p <;> simp
  have hsub : ∀ d ∈ N, ∃ x ∈ C, ∀ p, memR d p = true → memR x p = true := fun d hdN => by
    obtain ⟨_, x, hx, b, k⟩ := h.each d hdN
    exact ⟨x, hx, fun p hp => by rw [k.mem] at hp; simp at hp; exact hp.1⟩
  have hc1 : ∀ p, memR d1 p = true → memR c p = true ∧ inR s p = true := fun p hp => by rw [h1.mem] at hp; simpa using hp
  have hc2 : ∀ p, memR d2 p = true → memR c p = true ∧ inR s p = false := fun p hp => by rw [h2.mem] at hp; simpa using hp
  refine ⟨fun d hdm => ?_, fun x hx p hp => ?_, ?_⟩
  · rw [List.mem_append, List.mem_append, mem_keepN, mem_keepN] at hdm
    rcases hdm with (q | ⟨rfl, q⟩) | ⟨rfl, q⟩
    · obtain ⟨a, x, hx, b, k⟩ := h.each d q
      exact ⟨a, x, List.mem_append_left _ hx, b, k⟩
    · exact ⟨q, c, by simp, true, e1⟩
    · exact ⟨q, c, by simp, false, e2⟩
  · rw [List.mem_append, List.mem_singleton] at hx
    rcases hx with hx | rfl
    · obtain ⟨d, hdm, q⟩ := h.all x hx p hp
      exact ⟨d, by simp [hdm], q⟩
    · cases hs : inR s p
      · have q : memR d2 p = true := by rw [h2.mem]; simp [hp, hs]
        exact ⟨d2, by rw [List.mem_append, mem_keepN]; exact .inr ⟨rfl, can_ne q⟩, q⟩
      · have q : memR d1 p = true := by rw [h1.mem]; simp [hp, hs]
        exact ⟨d1, by rw [List.mem_append, List.mem_append, mem_keepN]; exact .inl (.inr ⟨rfl, can_ne q⟩), q⟩
  · rw [List.pairwise_append, List.pairwise_append]
    have one : ∀ d, (keepN d).Pairwise Disj := fun d => by unfold keepN; split <;> simp
    refine ⟨⟨h.dis, one _, fun a ha b hb => ?_⟩, one _, fun a ha b hb => ?_⟩
    · rw [mem_keepN] at hb
      obtain ⟨rfl, _⟩ := hb
      obtain ⟨x, hx, k⟩ := hsub a ha
      exact fun p q1 q2 => hd x hx p (k p q1) (hc1 p q2).1
    · rw [mem_keepN] at hb
      obtain ⟨rfl, _⟩ := hb
      rw [List.mem_append, mem_keepN] at ha
      rcases ha with ha | ⟨rfl, _⟩
      · obtain ⟨x, hx, k⟩ := hsub a ha
        exact fun p q1 q2 => hd x hx p (k p q1) (hc2 p q2).1
      · exact fun p q1 q2 => by have a1 := (hc1 p q1).2; have a2 := (hc2 p q2).2; rw [a1] at a2; cases a2
theorem Part.next {S C N : List (List Rg)} {s : List Rg} (h : Part S C) (k : Ref s C N) : Part (S ++ [s]) N := by
  refine ⟨fun d hd => ?_, fun p hp => ?_, k.dis⟩
  · obtain ⟨hne, c, hc, b, kd⟩ := k.each d hd
    obtain ⟨x, hx, kx⟩ := h.each c hc
    have hf := (fst_mem kd.can hne).1
    have hf0 := hf
    rw [kd.mem, kx.mem] at hf
    unfold clP at hf
    simp only [Bool.and_eq_true, decide_eq_true_eq, beq_iff_eq] at hf
    refine ⟨fstR d, hf.1.1, kd.congr fun p => ?_⟩
    rw [kx.mem]
    unfold clP
    cases hp : isPt p
    · simp
    · simp only [Bool.true_and]
      rw [Bool.eq_iff_iff]
      simp only [Bool.and_eq_true, decide_eq_true_eq, beq_iff_eq]
      rw [sig_snoc, hf.1.2, hf.2]
  · obtain ⟨c, hc, q⟩ := h.all p hp
    exact k.all c hc p q
/-- Sorted by their first points. -/
theorem Part.sorted {S C D : List (List Rg)} (h : Part S C) (hp : D.Perm C) (hs : D.Pairwise fun a b => fstR a ≤ fstR b) : Parted S D := by
  refine ⟨fun c hc => h.each c (hp.mem_iff.1 hc), fun p q => ?_, ?_⟩
  · obtain ⟨c, hc, k⟩ := h.all p q
    exact ⟨c, hp.mem_iff.2 hc, k⟩
  · have hd : D.Pairwise Disj := (hp.pairwise_iff (fun {a b} hab p q1 q2 => hab p q2 q1)).2 h.dis
    have hb := hs.and hd
    refine (List.Pairwise.imp_of_mem (fun {a b} ha hb' q => ?_) hb)
    obtain ⟨x, hx, hxm⟩ := (h.each a (hp.mem_iff.1 ha)).self
    obtain ⟨y, hy, hym⟩ := (h.each b (hp.mem_iff.1 hb')).self
    obtain ⟨_, _, ka⟩ := h.each a (hp.mem_iff.1 ha)
    obtain ⟨_, _, kb⟩ := h.each b (hp.mem_iff.1 hb')
    have m1 := (fst_mem ka.can (can_ne hxm)).1
    have m2 := (fst_mem kb.can (can_ne hym)).1
    have hne : fstR a ≠ fstR b := fun e => q.2 (fstR a) m1 (by rw [e]; exact m2)
    have := q.1
    omega
end Go.Proofs.Ytihfdmjejllhnaa
