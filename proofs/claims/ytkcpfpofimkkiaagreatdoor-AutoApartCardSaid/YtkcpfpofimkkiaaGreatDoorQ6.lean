/- Plain: classes of points under sets. No program here. · Plain: the classes of an automaton's points, from the classes of its moves' sets. No program here. · Plain: the document's classes, stretch by stretch. No program here. -/
import Derived.Test.YtkcpfpofimkkiaaGreatDoorQ5
namespace Go.Proofs.YtkcpfpofimkkiaaGreatDoor
set_option linter.unusedVariables false
set_option linter.unusedSimpArgs false

/-- Which of the sets hold a point. -/
def sig (S : List (List Rg)) (p : Int) : List Bool := S.map fun s => inR s p
theorem sig_snoc {S : List (List Rg)} {s : List Rg} {p q : Int} : sig (S ++ [s]) p = sig (S ++ [s]) q ↔ sig S p = sig S q ∧ inR s p = inR s q := by
  unfold sig
  rw [List.map_append, List.map_append]
  constructor
  · intro h
    have hl : (S.map fun s => inR s p).length = (S.map fun s => inR s q).length := by simp
    obtain ⟨h1, h2⟩ := List.append_inj h hl
    exact ⟨h1, by simpa using h2⟩
  · rintro ⟨h1, h2⟩
    rw [h1]; simp [h2]
/-- A class: the points like one. -/
def clP (S : List (List Rg)) (p q : Int) : Bool := isPt q && decide (sig S q = sig S p)
def IsCl (S : List (List Rg)) (c : List Rg) : Prop := ∃ p, isPt p = true ∧ IsCan c (clP S p)
def fstR (c : List Rg) : Int := (c.headD (0, 0)).1
structure Parted (S C : List (List Rg)) : Prop where
  each : ∀ c ∈ C, IsCl S c
  all : ∀ p, isPt p = true → ∃ c ∈ C, memR c p = true
  asc : C.Pairwise fun a b => fstR a < fstR b
theorem same_sorted {α : Type} {f : α → Int} : ∀ {C D : List α}, C.Pairwise (fun a b => f a < f b) → D.Pairwise (fun a b => f a < f b) → (∀ c, c ∈ C ↔ c ∈ D) → C = D
  | [], [], _, _, _ => rfl
  | [], d :: D, _, _, h => absurd ((h d).2 (List.mem_cons_self ..)) (by simp)
  | c :: C, [], _, _, h => absurd ((h c).1 (List.mem_cons_self ..)) (by simp)
  | c :: C, d :: D, hC, hD, h => by
    rw [List.pairwise_cons] at hC hD
    have e : c = d := by
      rcases List.mem_cons.1 ((h c).1 (List.mem_cons_self ..)) with q | q
      · exact q
      · rcases List.mem_cons.1 ((h d).2 (List.mem_cons_self ..)) with q2 | q2
        · exact q2.symm
        · have := hD.1 c q; have := hC.1 d q2; omega
    subst e
    congr 1
    refine same_sorted hC.2 hD.2 fun x => ⟨fun hx => ?_, fun hx => ?_⟩
    · rcases List.mem_cons.1 ((h x).1 (List.mem_cons_of_mem _ hx)) with q | q
      · subst q; have := hC.1 _ hx; omega
      · exact q
    · rcases List.mem_cons.1 ((h x).2 (List.mem_cons_of_mem _ hx)) with q | q
      · subst q; have := hD.1 _ hx; omega
      · exact q
theorem IsCl.eq {S : List (List Rg)} {c d : List Rg} {p : Int} (hc : IsCl S c) (hd : IsCl S d) (h1 : memR c p = true) (h2 : memR d p = true) : c = d := by
  obtain ⟨x, hx, kx⟩ := hc
  obtain ⟨y, hy, ky⟩ := hd
  rw [kx.mem] at h1
  rw [ky.mem] at h2
  unfold clP at h1 h2
  simp only [Bool.and_eq_true, decide_eq_true_eq] at h1 h2
  exact kx.same ky fun q => by unfold clP; rw [← h1.2, ← h2.2]
theorem IsCl.self {S : List (List Rg)} {c : List Rg} (hc : IsCl S c) : ∃ p, isPt p = true ∧ memR c p = true := by
  obtain ⟨x, hx, kx⟩ := hc
  exact ⟨x, hx, by rw [kx.mem]; unfold clP; simp [hx]⟩
/-- There is one such list. -/
theorem Parted.same {S C D : List (List Rg)} (h : Parted S C) (k : Parted S D) : C = D := by
  have half : ∀ {C D : List (List Rg)}, Parted S C → Parted S D → ∀ c, c ∈ C → c ∈ D := fun h k c hc => by
    obtain ⟨p, hp, hm⟩ := (h.each c hc).self
    obtain ⟨d, hd, hm2⟩ := k.all p hp
    rw [(h.each c hc).eq (k.each d hd) hm hm2]
    exact hd
  exact same_sorted h.asc k.asc fun c => ⟨half h k c, half k h c⟩

/-! ### the first point of a canonical set -/
theorem can_ne {c : List Rg} {p : Int} (h : memR c p = true) : c ≠ [] := fun e => by rw [e] at h; cases h
theorem fst_mem {c : List Rg} (h : Can c) (hne : c ≠ []) : memR c (fstR c) = true ∧ ∀ p, memR c p = true → fstR c ≤ p := by
  match c, h, hne with
  | (a, b) :: t, h, _ =>
    obtain ⟨h1, h2, h3, h4⟩ := h
    refine ⟨by rw [memR_cons]; simp [fstR]; exact .inl h2, fun p hp => ?_⟩
    rw [memR_cons] at hp
    simp only [Bool.or_eq_true, Bool.and_eq_true, decide_eq_true_eq] at hp
    show a ≤ p
    rcases hp with q | q
    · exact q.1
    · have := (CanF.le h4 q).1; omega

/-! ### the program: classes made finer, set by set -/
def Disj (a b : List Rg) : Prop := ∀ p, memR a p = true → memR b p = true → False
structure Part (S C : List (List Rg)) : Prop where
  each : ∀ c ∈ C, IsCl S c
  all : ∀ p, isPt p = true → ∃ c ∈ C, memR c p = true
  dis : C.Pairwise Disj
theorem Part.start : Part [] [[(0, 1114111)]] :=
  ⟨fun c hc => by
    rw [List.mem_singleton] at hc
    subst hc
    exact ⟨0, by decide, ⟨by unfold Can CanF; simp [CanF, MP], fun p => by unfold clP sig memR isPt MP; simp⟩⟩,
   fun p hp => ⟨_, List.mem_singleton.2 rfl, by unfold isPt MP at hp; simpa [memR] using hp⟩, List.pairwise_singleton _ _⟩
/-- The classes' parts so far. -/
structure Ref (s : List Rg) (C N : List (List Rg)) : Prop where
  each : ∀ d ∈ N, d ≠ [] ∧ ∃ c ∈ C, ∃ b : Bool, IsCan d (fun p => memR c p && (inR s p == b))
  all : ∀ c ∈ C, ∀ p, memR c p = true → ∃ d ∈ N, memR d p = true
  dis : N.Pairwise Disj
theorem Ref.start {s : List Rg} : Ref s [] [] := ⟨fun d hd => (by cases hd), fun c hc => (by cases hc), List.Pairwise.nil⟩
def keepN (d : List Rg) : List (List Rg) := if d = [] then [] else [d]
theorem mem_keepN {d x : List Rg} : x ∈ keepN d ↔ x = d ∧ d ≠ [] := by
  unfold keepN
  split
  · rename_i h; subst h; simp
  · rename_i h; simp [h]
theorem Ref.step {s : List Rg} {C N : List (List Rg)} {c d1 d2 : List Rg} (h : Ref s C N) (hd : ∀ x ∈ C, Disj x c)
    (h1 : IsCan d1 (fun p => memR c p && inR s p)) (h2 : IsCan d2 (fun p => memR c p && !inR s p)) : Ref s (C ++ [c]) (N ++ keepN d1 ++ keepN d2) := by
  have e1 : IsCan d1 (fun p => memR c p && (inR s p == true)) := h1.congr fun p => by simp
  have e2 : IsCan d2 (fun p => memR c p && (inR s p == false)) := h2.congr fun p => by cases inR s p <;> simp
  have hsub : ∀ d ∈ N, ∃ x ∈ C, ∀ p, memR d p = true → memR x p = true := fun d hdN => by
    obtain ⟨_, x, hx, b, k⟩ := h.each d hdN
    exact ⟨x, hx, fun p hp => by rw [k.mem] at hp; simp at hp; exact hp.1⟩
  have hc1 : ∀ p, memR d1 p = true → memR c p = true ∧ inR s p = true := fun p hp => by rw [h1.mem] at hp; simpa using hp
  have hc2 : ∀ p, memR d2 p = true → memR c p = true ∧ inR s p = false := fun p hp => by rw [h2.mem] at hp; simpa using hp
  refine ⟨fun d hdm => ?_, fun x hx p hp => ?_, ?_⟩
  · rw [List.mem_append, List.mem_append, mem_keepN, mem_keepN] at hdm
    rcases hdm with (q | ⟨rfl, q⟩) | ⟨rfl, q⟩
    · obtain ⟨a, x, hx, b, k⟩ := h.each d q
      exact ⟨a, x, List.mem_append_left _ hx, b, k⟩
    · exact ⟨q, c, by simp, true, e1⟩
    · exact ⟨q, c, by simp, false, e2⟩
  · rw [List.mem_append, List.mem_singleton] at hx
    rcases hx with hx | rfl
    · obtain ⟨d, hdm, q⟩ := h.all x hx p hp
      exact ⟨d, by simp [hdm], q⟩
    · cases hs : inR s p
      · have q : memR d2 p = true := by rw [h2.mem]; simp [hp, hs]
        exact ⟨d2, by rw [List.mem_append, mem_keepN]; exact .inr ⟨rfl, can_ne q⟩, q⟩
      · have q : memR d1 p = true := by rw [h1.mem]; simp [hp, hs]
        exact ⟨d1, by rw [List.mem_append, List.mem_append, mem_keepN]; exact .inl (.inr ⟨rfl, can_ne q⟩), q⟩
  · rw [List.pairwise_append, List.pairwise_append]
    have one : ∀ d, (keepN d).Pairwise Disj := fun d => by unfold keepN; split <;> simp
    refine ⟨⟨h.dis, one _, fun a ha b hb => ?_⟩, one _, fun a ha b hb => ?_⟩
    · rw [mem_keepN] at hb
      obtain ⟨rfl, _⟩ := hb
      obtain ⟨x, hx, k⟩ := hsub a ha
      exact fun p q1 q2 => hd x hx p (k p q1) (hc1 p q2).1
    · rw [mem_keepN] at hb
      obtain ⟨rfl, _⟩ := hb
      rw [List.mem_append, mem_keepN] at ha
      rcases ha with ha | ⟨rfl, _⟩
      · obtain ⟨x, hx, k⟩ := hsub a ha
        exact fun p q1 q2 => hd x hx p (k p q1) (hc2 p q2).1
      · exact fun p q1 q2 => by have a1 := (hc1 p q1).2; have a2 := (hc2 p q2).2; rw [a1] at a2; cases a2
theorem Part.next {S C N : List (List Rg)} {s : List Rg} (h : Part S C) (k : Ref s C N) : Part (S ++ [s]) N := by
  refine ⟨fun d hd => ?_, fun p hp => ?_, k.dis⟩
  · obtain ⟨hne, c, hc, b, kd⟩ := k.each d hd
    obtain ⟨x, hx, kx⟩ := h.each c hc
    have hf := (fst_mem kd.can hne).1
    have hf0 := hf
    rw [kd.mem, kx.mem] at hf
    unfold clP at hf
    simp only [Bool.and_eq_true, decide_eq_true_eq, beq_iff_eq] at hf
    refine ⟨fstR d, hf.1.1, kd.congr fun p => ?_⟩
    rw [kx.mem]
    unfold clP
    cases hp : isPt p
    · simp
    · simp only [Bool.true_and]
      rw [Bool.eq_iff_iff]
      simp only [Bool.and_eq_true, decide_eq_true_eq, beq_iff_eq]
      rw [sig_snoc, hf.1.2, hf.2]
  · obtain ⟨c, hc, q⟩ := h.all p hp
    exact k.all c hc p q
/-- Sorted by their first points. -/
theorem Part.sorted {S C D : List (List Rg)} (h : Part S C) (hp : D.Perm C) (hs : D.Pairwise fun a b => fstR a ≤ fstR b) : Parted S D := by
  refine ⟨fun c hc => h.each c (hp.mem_iff.1 hc), fun p q => ?_, ?_⟩
  · obtain ⟨c, hc, k⟩ := h.all p q
    exact ⟨c, hp.mem_iff.2 hc, k⟩
  · have hd : D.Pairwise Disj := (hp.pairwise_iff (fun {a b} hab p q1 q2 => hab p q2 q1)).2 h.dis
    have hb := hs.and hd
    refine (List.Pairwise.imp_of_mem (fun {a b} ha hb' q => ?_) hb)
    obtain ⟨x, hx, hxm⟩ := (h.each a (hp.mem_iff.1 ha)).self
    obtain ⟨y, hy, hym⟩ := (h.each b (hp.mem_iff.1 hb')).self
    obtain ⟨_, _, ka⟩ := h.each a (hp.mem_iff.1 ha)
    obtain ⟨_, _, kb⟩ := h.each b (hp.mem_iff.1 hb')
    have m1 := (fst_mem ka.can (can_ne hxm)).1
    have m2 := (fst_mem kb.can (can_ne hym)).1
    have hne : fstR a ≠ fstR b := fun e => q.2 (fstR a) m1 (by rw [e]; exact m2)
    have := q.1
    omega
end Go.Proofs.YtkcpfpofimkkiaaGreatDoor
namespace Go.Proofs.YtkcpfpofimkkiaaGreatDoor
set_option linter.unusedVariables false
set_option linter.unusedSimpArgs false

theorem isPt_iff {p : Int} : isPt p = true ↔ isP p := by unfold isPt isP MP; simp
/-- The number of a point's class. -/
def clsOf (C : List (List Rg)) (p : Int) : Nat := C.findIdx fun c => memR c p
/-- The first point of a class. -/
def repOf (C : List (List Rg)) (c : Nat) : Int := fstR (C.getD c [])
theorem IsCl.sig {S : List (List Rg)} {c : List Rg} (h : IsCl S c) {p q : Int} (hp : memR c p = true) (hq : memR c q = true) : isPt p = true ∧ isPt q = true ∧ sig S p = sig S q := by
  obtain ⟨x, hx, k⟩ := h
  rw [k.mem] at hp hq
  unfold clP at hp hq
  simp only [Bool.and_eq_true, decide_eq_true_eq] at hp hq
  exact ⟨hp.1, hq.1, hp.2.trans hq.2.symm⟩
theorem Parted.fst {S C : List (List Rg)} (h : Parted S C) {c : List Rg} (hc : c ∈ C) : memR c (fstR c) = true := by
  obtain ⟨p, hp, hm⟩ := (h.each c hc).self
  obtain ⟨x, hx, k⟩ := h.each c hc
  exact (fst_mem k.can (can_ne hm)).1
theorem Parted.cls {S C : List (List Rg)} (h : Parted S C) {i : Nat} (hi : i < C.length) {p : Int} (hp : memR C[i] p = true) : clsOf C p = i := by
  have hlt : clsOf C p < C.length := List.findIdx_lt_length_of_exists ⟨_, List.getElem_mem hi, hp⟩
  have hm : memR (C[clsOf C p]'hlt) p = true := List.findIdx_getElem (w := hlt)
  have e := (h.each _ (List.getElem_mem hlt)).eq (h.each _ (List.getElem_mem hi)) hm hp
  have hasc := List.pairwise_iff_getElem.1 h.asc
  rcases Nat.lt_trichotomy (clsOf C p) i with q | q | q
  · have := hasc _ _ hlt hi q
    rw [e] at this; omega
  · exact q
  · have := hasc _ _ hi hlt q
    rw [e] at this; omega
/-- Where states step alike on points that no set parts. -/
theorem cls_of_parted {l : List St} {S C : List (List Rg)} (h : Parted S C) (hc : ∀ s p q, isP p → isP q → sig S p = sig S q → dlt l s p = dlt l s q) : Cls l C.length (repOf C) (clsOf C) := by
  refine ⟨fun p hp => ?_, fun c hcl => ?_, fun s p hp => ?_⟩
  · obtain ⟨c, hcm, hm⟩ := h.all p (isPt_iff.2 hp)
    exact List.findIdx_lt_length_of_exists ⟨c, hcm, hm⟩
  · have e : C.getD c [] = C[c] := by simp [hcl]
    have hm := h.fst (List.getElem_mem hcl)
    unfold repOf
    rw [e]
    exact ⟨isPt_iff.1 ((h.each _ (List.getElem_mem hcl)).sig hm hm).1, h.cls hcl hm⟩
  · obtain ⟨c, hcm, hm⟩ := h.all p (isPt_iff.2 hp)
    obtain ⟨i, hi, rfl⟩ := List.getElem_of_mem hcm
    have e : C.getD (clsOf C p) [] = C[i] := by rw [h.cls hi hm]; simp [hi]
    unfold repOf
    rw [e]
    obtain ⟨q1, q2, q3⟩ := (h.each _ hcm).sig hm (h.fst hcm)
    exact hc s p _ hp (isPt_iff.1 q2) q3
/-- The document's sets: each move's points. -/
def setsR (l : List St) : List (List Rg) := l.flatMap fun s => s.2.map fun m => [(m.1, m.2.1)]
theorem sig_mem {S : List (List Rg)} {p q : Int} (h : sig S p = sig S q) {s : List Rg} (hs : s ∈ S) : inR s p = inR s q := by
  unfold Go.Proofs.YtkcpfpofimkkiaaGreatDoor.sig at h
  exact List.map_inj_left.1 h s hs
theorem stp_same {p q : Int} : ∀ {ms : List Mv}, (∀ m ∈ ms, (m.1 ≤ p ∧ p ≤ m.2.1) ↔ (m.1 ≤ q ∧ q ≤ m.2.1)) → stp ms p = stp ms q
  | [], _ => rfl
  | m :: r, h => by
    have h1 := h m (List.mem_cons_self ..)
    unfold stp
    by_cases e : m.1 ≤ p ∧ p ≤ m.2.1
    · rw [if_pos e, if_pos (h1.1 e)]
    · rw [if_neg e, if_neg (fun k => e (h1.2 k))]
      exact stp_same fun x hx => h x (List.mem_cons_of_mem _ hx)
theorem setsR_const {l : List St} {s : Nat} {p q : Int} (hp : isP p) (hq : isP q) (h : sig (setsR l) p = sig (setsR l) q) : dlt l s p = dlt l s q := by
  unfold dlt
  cases e : l[s]? with
  | none => rfl
  | some st =>
    have hst := List.mem_of_getElem? e
    have : stp st.2 p = stp st.2 q := stp_same fun m hm => by
      have h1 := sig_mem h (s := [(m.1, m.2.1)]) (List.mem_flatMap.2 ⟨st, hst, List.mem_map.2 ⟨m, hm, rfl⟩⟩)
      unfold inR memR at h1
      rw [isPt_iff.2 hp, isPt_iff.2 hq] at h1
      simp only [Bool.true_and, List.any_cons, List.any_nil, Bool.or_false] at h1
      have h2 := Bool.eq_iff_iff.1 h1
      simpa using h2
    simp only [this]
end Go.Proofs.YtkcpfpofimkkiaaGreatDoor
namespace Go.Proofs.YtkcpfpofimkkiaaGreatDoor
set_option linter.unusedVariables false
set_option linter.unusedSimpArgs false

theorem fst_grow {c : List Rg} {lo hi : Int} (h : c ≠ []) : fstR (growR c lo hi) = fstR c := by
  rcases List.eq_nil_or_concat c with rfl | ⟨l0, ⟨x, y⟩, rfl⟩
  · exact absurd rfl h
  · rw [List.concat_eq_append, growR_snoc]
    split
    · cases l0 <;> rfl
    · cases l0 <;> rfl
theorem grow_ne {c : List Rg} {lo hi : Int} : growR c lo hi ≠ [] := by
  rcases List.eq_nil_or_concat c with rfl | ⟨l0, ⟨x, y⟩, rfl⟩
  · rw [growR_nil]; simp
  · rw [List.concat_eq_append, growR_snoc]
    split <;> simp
structure ClS (S R : List (List Rg)) (f : Int) : Prop where
  each : ∀ c ∈ R, c ≠ [] ∧ isPt (fstR c) = true ∧ GwS c (clP S (fstR c)) f
  all : ∀ p, 0 ≤ p → p < f → ∃ c ∈ R, memR c p = true
  asc : R.Pairwise fun a b => fstR a < fstR b
theorem ClS.start {S : List (List Rg)} : ClS S [] 0 := ⟨fun c h => (by cases h), fun p h1 h2 => (by omega), List.Pairwise.nil⟩
theorem ClS.lt {S R : List (List Rg)} {f : Int} (h : ClS S R f) {c : List Rg} (hc : c ∈ R) : fstR c < f := by
  obtain ⟨a, b, g⟩ := h.each c hc
  have := (fst_mem g.can a).1
  rw [g.mem] at this
  simp at this
  exact this.1
theorem ClS.in_ {S R : List (List Rg)} {f : Int} (h : ClS S R f) {c : List Rg} (hc : c ∈ R) {p : Int} (hp : isPt p = true) (hf : p < f) (hs : sig S p = sig S (fstR c)) : memR c p = true := by
  obtain ⟨a, b, g⟩ := h.each c hc
  rw [g.mem]; unfold clP; simp [hp, hf, hs]
theorem ClS.one {S R : List (List Rg)} {f : Int} (h : ClS S R f) {c d : List Rg} (hc : c ∈ R) (hd : d ∈ R) (hs : sig S (fstR c) = sig S (fstR d)) : fstR c = fstR d := by
  obtain ⟨a, b, g⟩ := h.each c hc
  obtain ⟨a2, b2, g2⟩ := h.each d hd
  have h1 := (fst_mem g.can a).2 _ (h.in_ hc b2 (h.lt hd) hs.symm)
  have h2 := (fst_mem g2.can a2).2 _ (h.in_ hd b (h.lt hc) hs)
  omega
theorem pairwise_set {R : List (List Rg)} {j : Nat} {c : List Rg} (hj : j < R.length) (h : R.Pairwise fun a b => fstR a < fstR b) (e : fstR c = fstR R[j]) : (R.set j c).Pairwise fun a b => fstR a < fstR b := by
  rw [List.pairwise_iff_getElem] at h ⊢
  intro i k hi hk hik
  simp only [List.length_set] at hi hk
  have := h i k hi hk hik
  rw [List.getElem_set, List.getElem_set]
  split
  · rename_i q; subst q
    rw [if_neg (by omega), e]; exact this
  · split
    · rename_i q; subst q; rw [e]; exact this
    · exact this
/-- A stretch that is like a class. -/
theorem ClS.grow {S R : List (List Rg)} {f g : Int} {j : Nat} (h : ClS S R f) (h0 : 0 ≤ f) (hfg : f < g) (hg : g ≤ MP + 1) (hc : ∀ p, f ≤ p → p < g → sig S p = sig S f) (hj : j < R.length) (hs : sig S (fstR R[j]) = sig S f) :
    ClS S (R.set j (growR R[j] f (g - 1))) g := by
  have hjm := List.getElem_mem hj
  have hE := h.each _ hjm
  have hpt : ∀ p, f ≤ p → p < g → isPt p = true := fun p a b => by unfold isPt; simp; omega
  have hnew : GwS (growR R[j] f (g - 1)) (clP S (fstR R[j])) g := hE.2.2.yes hfg h0 hg (fun p a b => by unfold clP; rw [hpt p a b, hc p a b, hs]; simp)
  have hf := fst_grow (c := R[j]) (lo := f) (hi := g - 1) hE.1
  refine ⟨fun c hcm => ?_, fun p a b => ?_, pairwise_set hj h.asc hf⟩
  · obtain ⟨i, hi, rfl⟩ := List.getElem_of_mem hcm
    simp only [List.length_set] at hi
    rw [List.getElem_set]
    split
    · exact ⟨grow_ne, by rw [hf]; exact hE.2.1, by rw [hf]; exact hnew⟩
    · rename_i q
      have hI := h.each _ (List.getElem_mem hi)
      refine ⟨hI.1, hI.2.1, hI.2.2.no hfg fun p a b => ?_⟩
      have hne : sig S p ≠ sig S (fstR R[i]) := fun e => by
        have e2 : sig S (fstR R[j]) = sig S (fstR R[i]) := by rw [hs, ← hc p a b, e]
        have e3 := h.one hjm (List.getElem_mem hi) e2
        have ha := h.asc
        rw [List.pairwise_iff_getElem] at ha
        rcases Nat.lt_or_ge i j with k | k
        · have := ha i j hi hj k; omega
        · have := ha j i hj hi (by omega); omega
      unfold clP
      simp [hne]
  · by_cases q : p < f
    · obtain ⟨c, hcm, k⟩ := h.all p a q
      obtain ⟨i, hi, rfl⟩ := List.getElem_of_mem hcm
      by_cases e : j = i
      · subst e
        refine ⟨growR R[j] f (g - 1), List.mem_iff_getElem.2 ⟨j, by simpa using hj, by simp⟩, ?_⟩
        rw [hnew.mem]
        have k2 := k
        rw [hE.2.2.mem] at k2
        simp at k2 ⊢
        exact ⟨by omega, k2.2⟩
      · exact ⟨R[i], List.mem_iff_getElem.2 ⟨i, by simpa using hi, by rw [List.getElem_set, if_neg e]⟩, k⟩
    · refine ⟨growR R[j] f (g - 1), List.mem_iff_getElem.2 ⟨j, by simpa using hj, by simp⟩, ?_⟩
      rw [hnew.mem]
      unfold clP
      rw [hpt p (by omega) b, hc p (by omega) b, hs]
      simp [b]
/-- A stretch that is like none. -/
theorem ClS.new {S R : List (List Rg)} {f g : Int} (h : ClS S R f) (h0 : 0 ≤ f) (hfg : f < g) (hg : g ≤ MP + 1) (hc : ∀ p, f ≤ p → p < g → sig S p = sig S f) (hs : ∀ c ∈ R, sig S (fstR c) ≠ sig S f) :
    ClS S (R ++ [[(f, g - 1)]]) g := by
  have hpt : ∀ p, f ≤ p → p < g → isPt p = true := fun p a b => by unfold isPt; simp; omega
  have hnone : GwS [] (clP S f) f := ⟨trivial, fun p => by
    rw [memR_nil]
    by_cases q : p < f
    · have : clP S f p = false := by
        unfold clP
        cases hp : isPt p
        · rfl
        · have h1 : 0 ≤ p := by unfold isPt at hp; simp at hp; exact hp.1
          obtain ⟨c, hcm, k⟩ := h.all p h1 q
          obtain ⟨a, b, gg⟩ := h.each c hcm
          rw [gg.mem] at k
          unfold clP at k
          simp at k
          have hne := hs c hcm
          rw [← k.2.2] at hne
          simp [hne]
      rw [this]; simp
    · simp [q], fun r hr => by cases hr⟩
  have hnew : GwS [(f, g - 1)] (clP S f) g := hnone.yes hfg h0 hg (fun p a b => by unfold clP; rw [hpt p a b, hc p a b]; simp)
  refine ⟨fun c hcm => ?_, fun p a b => ?_, ?_⟩
  · rw [List.mem_append, List.mem_singleton] at hcm
    rcases hcm with hcm | rfl
    · have hI := h.each c hcm
      refine ⟨hI.1, hI.2.1, hI.2.2.no hfg fun p a b => ?_⟩
      have hne : sig S p ≠ sig S (fstR c) := fun e => hs c hcm (by rw [← e, hc p a b])
      unfold clP
      simp [hne]
    · exact ⟨by simp, hpt f (Int.le_refl _) hfg, hnew⟩
  · by_cases q : p < f
    · obtain ⟨c, hcm, k⟩ := h.all p a q
      exact ⟨c, by simp [hcm], k⟩
    · refine ⟨[(f, g - 1)], by simp, ?_⟩
      rw [hnew.mem]
      unfold clP
      rw [hpt p (by omega) b, hc p (by omega) b]
      simp [b]
  · rw [List.pairwise_append]
    refine ⟨h.asc, List.pairwise_singleton _ _, fun a ha b hb => ?_⟩
    rw [List.mem_singleton] at hb
    subst hb
    exact h.lt ha
theorem ClS.done {S R : List (List Rg)} (h : ClS S R (MP + 1)) : Parted S R :=
  ⟨fun c hc => ⟨fstR c, (h.each c hc).2.1, (h.each c hc).2.2.done fun p hp => by unfold clP isPt; simp; intro; omega⟩,
   fun p hp => h.all p (by unfold isPt at hp; simp at hp; exact hp.1) (by unfold isPt at hp; simp at hp; omega), h.asc⟩
/-- Between two edges of all sets nothing changes. -/
theorem sig_const {S : List (List Rg)} {e : List Int} (he : EdgO e) (hb : ∀ s ∈ S, ∀ r ∈ s, EdgB e r) {i : Nat} (hi : i + 1 < e.length) {p : Int} (h1 : e[i] ≤ p) (h2 : p < e[i + 1]) : sig S p = sig S e[i] := by
  unfold sig
  exact List.map_congr_left fun s hs => edg_const he (hb s hs) hi h1 h2
end Go.Proofs.YtkcpfpofimkkiaaGreatDoor
