/- Rows of truths: a list of slices of truths, each row in a block of its own. · Plain: ranges of points; canonical sets; joined, met, the other points; edges. No program here. -/
import Derived.Test.YthikgdogfkjioaaGreatDoorQ2
import Derived.Lib.Hide
namespace Go.Proofs.YthikgdogfkjioaaGreatDoor
open Go.RowKit
set_option linter.unusedVariables false
set_option linter.unusedSimpArgs false
set_option maxRecDepth 100000

theorem Blk.type_eq {w : World} {g : Nat} {e e' : TypeId} {vs vs' : List Value} (h : Blk w g e vs) (h' : Blk w g e' vs') : e = e' := by
  unfold Blk at h h'
  rw [h] at h'
  simp at h'
  exact h'.2

/-- Row k of rows. -/
def rowB (M : List (List Bool)) (k : Nat) : List Bool := M.getD k []
theorem rowB_get {M : List (List Bool)} {k : Nat} (h : k < M.length) : rowB M k = M[k] := by simp [rowB, h]
theorem rowB_set {M : List (List Bool)} {k j : Nat} {r : List Bool} (hk : k < M.length) : rowB (M.set k r) j = if k = j then r else rowB M j := by
  unfold rowB
  by_cases h : k = j
  · subst h; simp [List.getD, hk]
  · simp [List.getD, h]
def nthN (l : List Nat) (k : Nat) : Nat := l.getD k 0
theorem nthN_get {l : List Nat} {k : Nat} (h : k < l.length) : nthN l k = l[k] := by simp [nthN, h]

/-- The rows M: the block D has their slices, row k lies in block number k of ρ. -/
structure MtSt (w : World) (D N T : Nat) (ρ : List Nat) (M : List (List Bool)) : Prop where
  dl : D < w.heap.size
  d : ∀ k, k < N → w.cell? ⟨D, k, none⟩ = some (.slice (some ⟨nthN ρ k, 0, none⟩) T T)
  rl : ρ.length = N
  ml : M.length = N
  nd : ∀ i j, i < N → j < N → nthN ρ i = nthN ρ j → i = j
  ne : ∀ i, i < N → nthN ρ i ≠ D
  rows : ∀ k, k < N → Blk w (nthN ρ k) 4 (bv (rowB M k)) ∧ (rowB M k).length = T
section
variable {w w' : World} {D N T : Nat} {ρ : List Nat} {M : List (List Bool)}
theorem MtSt.cell (h : MtSt w D N T ρ M) {k : Nat} (hk : k < N) : w.cell? ⟨D, k, none⟩ = some (.slice (some ⟨nthN ρ k, 0, none⟩) T T) := h.d k hk
theorem MtSt.keep {S : Nat → Prop} (h : MtSt w D N T ρ M) (hk : Kp S w w') (hD : ¬ S D) (hr : ∀ k, k < N → ¬ S (nthN ρ k)) : MtSt w' D N T ρ M :=
  ⟨Nat.lt_of_lt_of_le h.dl hk.size, fun k hkn => (hk.cell (p := ⟨D, k, none⟩) h.dl hD).trans (h.d k hkn), h.rl, h.ml, h.nd, h.ne, fun k hkn => ⟨(hk.block _ (h.rows k hkn).1.lt (hr k hkn)).trans (h.rows k hkn).1, (h.rows k hkn).2⟩⟩
theorem MtSt.below (h : MtSt w D N T ρ M) (hb : Below w.heap.size w w') : MtSt w' D N T ρ M := h.keep (S := fun _ => False) (Kp.of hb) (fun e => e) (fun _ _ e => e)
/-- One row turned: only its block has changed. -/
theorem MtSt.set_ (h : MtSt w D N T ρ M) {k : Nat} (hk : k < N) {r : List Bool} (hr : r.length = T) (hkp : Kp (fun j => j = nthN ρ k) w w') (hb : Blk w' (nthN ρ k) 4 (bv r)) : MtSt w' D N T ρ (M.set k r) := by
  refine ⟨Nat.lt_of_lt_of_le h.dl hkp.size, fun j hj => (hkp.cell (p := ⟨D, j, none⟩) h.dl (fun e => h.ne k hk e.symm)).trans (h.d j hj), h.rl, by rw [List.length_set]; exact h.ml, h.nd, h.ne, fun j hj => ?_⟩
  rw [rowB_set (by rw [h.ml]; exact hk)]
  by_cases e : k = j
  · subst e; rw [if_pos rfl]; exact ⟨hb, hr⟩
  · rw [if_neg e]
    exact ⟨(hkp.block _ (h.rows j hj).1.lt (fun q => e (h.nd j k hj hk q).symm)).trans (h.rows j hj).1, (h.rows j hj).2⟩
end

theorem nthN_snoc {l : List Nat} {b k : Nat} : nthN (l ++ [b]) k = if k < l.length then nthN l k else if k = l.length then b else 0 := by
  unfold nthN
  rw [List.getD_eq_getElem?_getD]
  by_cases h : k < l.length
  · rw [if_pos h, List.getElem?_append_left h]; simp [List.getD]
  · rw [if_neg h, List.getElem?_append_right (by omega)]
    by_cases e : k = l.length
    · rw [if_pos e, e]; simp
    · rw [if_neg e, List.getElem?_eq_none (by simp; omega)]; rfl
/-- n rows of T times false. -/
def m0 (N T : Nat) : List (List Bool) := List.replicate N (List.replicate T false)
theorem rowB_m0 {N T k : Nat} (hk : k < N) : rowB (m0 N T) k = List.replicate T false := by
  unfold rowB m0
  rw [List.getD_eq_getElem?_getD, List.getElem?_replicate, if_pos hk]; rfl

end Go.Proofs.YthikgdogfkjioaaGreatDoor
namespace Go.Proofs.YthikgdogfkjioaaGreatDoor
set_option linter.unusedVariables false
set_option linter.unusedSimpArgs false

abbrev Rg := Int × Int
/-- The greatest point. -/
def MP : Int := 1114111
def memR (l : List Rg) (p : Int) : Bool := l.any fun r => decide (r.1 ≤ p) && decide (p ≤ r.2)
def isPt (p : Int) : Bool := decide (0 ≤ p) && decide (p ≤ MP)
def inR (l : List Rg) (p : Int) : Bool := isPt p && memR l p
/-- Canonical, from a point on. -/
def CanF : Int → List Rg → Prop
  | _, [] => True
  | f, (a, b) :: t => f ≤ a ∧ a ≤ b ∧ b ≤ MP ∧ CanF (b + 2) t
def Can (l : List Rg) : Prop := CanF 0 l
theorem memR_cons {a b : Int} {t : List Rg} {p : Int} : memR ((a, b) :: t) p = ((decide (a ≤ p) && decide (p ≤ b)) || memR t p) := by simp [memR]
theorem memR_append {l m : List Rg} {p : Int} : memR (l ++ m) p = (memR l p || memR m p) := by simp [memR]
theorem memR_nil {p : Int} : memR [] p = false := rfl
theorem CanF.below : ∀ {l : List Rg} {f p : Int}, CanF f l → p < f → memR l p = false
  | [], f, p, _, _ => rfl
  | (a, b) :: t, f, p, h, hp => by
    obtain ⟨h1, h2, h3, h4⟩ := h
    rw [memR_cons, CanF.below h4 (by omega)]
    simp; omega
theorem CanF.le : ∀ {l : List Rg} {f p : Int}, CanF f l → memR l p = true → f ≤ p ∧ p ≤ MP
  | [], f, p, _, h => by cases h
  | (a, b) :: t, f, p, h, hp => by
    obtain ⟨h1, h2, h3, h4⟩ := h
    rw [memR_cons] at hp
    simp only [Bool.or_eq_true, Bool.and_eq_true, decide_eq_true_eq] at hp
    rcases hp with q | q
    · omega
    · have := CanF.le h4 q; omega
theorem CanF.mono {l : List Rg} {f g : Int} (h : CanF f l) (hg : g ≤ f) : CanF g l := by
  cases l with
  | nil => trivial
  | cons r t => obtain ⟨a, b⟩ := r; exact ⟨by have := h.1; omega, h.2⟩
/-- The canonical form of a set is one. -/
theorem CanF.same : ∀ {l m : List Rg} {f g : Int}, CanF f l → CanF g m → (∀ p, memR l p = memR m p) → l = m
  | [], [], _, _, _, _, _ => rfl
  | [], (c, d) :: s, _, _, _, h, e => by
    have := e c
    rw [memR_nil, memR_cons] at this
    have h2 := h.2.1
    simp [h2] at this
  | (a, b) :: t, [], _, _, h, _, e => by
    have := e a
    rw [memR_nil, memR_cons] at this
    have h2 := h.2.1
    simp [h2] at this
  | (a, b) :: t, (c, d) :: s, f, g, h, k, e => by
    obtain ⟨h1, h2, h3, h4⟩ := h
    obtain ⟨k1, k2, k3, k4⟩ := k
    have hac : a = c := by
      have e1 := e a
      have e2 := e c
      rw [memR_cons, memR_cons] at e1 e2
      rcases Int.lt_trichotomy a c with q | q | q
      · rw [CanF.below k4 (by omega), CanF.below h4 (by omega)] at e1
        rw [Bool.eq_iff_iff] at e1; simp at e1; omega
      · exact q
      · rw [CanF.below h4 (by omega), CanF.below k4 (by omega)] at e2
        rw [Bool.eq_iff_iff] at e2; simp at e2; omega
    subst hac
    have hbd : b = d := by
      rcases Int.lt_trichotomy b d with q | q | q
      · have e1 := e (b + 1)
        rw [memR_cons, memR_cons, CanF.below h4 (by omega), CanF.below k4 (by omega)] at e1
        rw [Bool.eq_iff_iff] at e1; simp at e1; omega
      · exact q
      · have e1 := e (d + 1)
        rw [memR_cons, memR_cons, CanF.below k4 (by omega), CanF.below h4 (by omega)] at e1
        rw [Bool.eq_iff_iff] at e1; simp at e1; omega
    subst hbd
    have : t = s := CanF.same h4 k4 fun p => by
      by_cases q : p < b + 2
      · rw [CanF.below h4 q, CanF.below k4 q]
      · have e1 := e p
        rw [memR_cons, memR_cons] at e1
        have d1 : decide (p ≤ b) = false := decide_eq_false (by omega)
        rw [d1] at e1
        simpa using e1
    rw [this]
/-- A set's canonical form. -/
structure IsCan (l : List Rg) (P : Int → Bool) : Prop where
  can : Can l
  mem : ∀ p, memR l p = P p
theorem IsCan.same {l m : List Rg} {P Q : Int → Bool} (h : IsCan l P) (k : IsCan m Q) (e : ∀ p, P p = Q p) : l = m :=
  CanF.same h.can k.can fun p => by rw [h.mem, k.mem, e]
theorem IsCan.inR {l : List Rg} {P : Int → Bool} (h : IsCan l P) (p : Int) : inR l p = P p := by
  unfold Proofs.YthikgdogfkjioaaGreatDoor.inR
  rw [h.mem]
  cases e : P p
  · simp
  · have := CanF.le h.can (by rw [h.mem]; exact e)
    simp [isPt, this]
theorem IsCan.congr {l : List Rg} {P Q : Int → Bool} (h : IsCan l P) (e : ∀ p, P p = Q p) : IsCan l Q := ⟨h.can, fun p => (h.mem p).trans (e p)⟩

/-! ### one range more behind -/
/-- What ends at or ahead of a point. -/
def EndsBy (l : List Rg) (e : Int) : Prop := ∀ r ∈ l, r.2 ≤ e
theorem CanF.snoc : ∀ {l : List Rg} {f a b : Int}, CanF f l → (∀ r ∈ l, r.2 + 2 ≤ a) → f ≤ a → a ≤ b → b ≤ MP → CanF f (l ++ [(a, b)])
  | [], f, a, b, _, _, h1, h2, h3 => ⟨h1, h2, h3, trivial⟩
  | (c, d) :: t, f, a, b, h, hl, h1, h2, h3 => ⟨h.1, h.2.1, h.2.2.1, CanF.snoc h.2.2.2 (fun r hr => hl r (List.mem_cons_of_mem _ hr)) (hl (c, d) (by simp)) h2 h3⟩
theorem CanF.last : ∀ {l : List Rg} {f a b b' : Int}, CanF f (l ++ [(a, b)]) → b ≤ b' → b' ≤ MP → CanF f (l ++ [(a, b')])
  | [], f, a, b, b', h, h1, h2 => ⟨h.1, by have := h.2.1; omega, h2, trivial⟩
  | (c, d) :: t, f, a, b, b', h, h1, h2 => ⟨h.1, h.2.1, h.2.2.1, CanF.last h.2.2.2 h1 h2⟩
theorem CanF.ends : ∀ {l : List Rg} {f a b : Int}, CanF f (l ++ [(a, b)]) → f ≤ a ∧ a ≤ b ∧ b ≤ MP ∧ ∀ r ∈ l, r.2 + 2 ≤ a
  | [], f, a, b, h => ⟨h.1, h.2.1, h.2.2.1, fun r hr => by cases hr⟩
  | (c, d) :: t, f, a, b, h => by
    obtain ⟨h1, h2, h3, h4⟩ := CanF.ends (l := t) h.2.2.2
    have := h.1; have := h.2.1
    refine ⟨by omega, h2, h3, fun r hr => ?_⟩
    rcases List.mem_cons.1 hr with rfl | q
    · exact h1
    · exact h4 r q

/-! ### Canon: ranges in order, one after the other -/
def mg (out : List Rg) (r : Rg) : List Rg :=
  match out.reverse with
  | [] => [r]
  | (a, b) :: t => if r.1 ≤ b + 1 then t.reverse ++ [(a, max b r.2)] else out ++ [r]
theorem mg_nil (r : Rg) : mg [] r = [r] := rfl
theorem mg_snoc (l : List Rg) (a b : Int) (r : Rg) : mg (l ++ [(a, b)]) r = if r.1 ≤ b + 1 then l ++ [(a, max b r.2)] else l ++ [(a, b)] ++ [r] := by
  unfold mg
  simp
def ValR (r : Rg) : Prop := 0 ≤ r.1 ∧ r.1 ≤ r.2 ∧ r.2 ≤ MP
/-- Canonical so far, no range begins later than from. -/
structure MgS (out : List Rg) (P : Int → Bool) (f : Int) : Prop where
  can : Can out
  mem : ∀ p, memR out p = P p
  lo : ∀ r ∈ out, r.1 ≤ f
theorem MgS.start : MgS [] (fun _ => false) 0 := ⟨trivial, fun _ => rfl, fun r hr => by cases hr⟩
theorem MgS.step {out : List Rg} {P : Int → Bool} {f : Int} {r : Rg} (h : MgS out P f) (hv : ValR r) (hf : f ≤ r.1) : MgS (mg out r) (fun p => P p || (decide (r.1 ≤ p) && decide (p ≤ r.2))) r.1 := by
  obtain ⟨lo, hi⟩ := r
  obtain ⟨v1, v2, v3⟩ := hv
  simp only at v1 v2 v3 hf
  rcases List.eq_nil_or_concat out with rfl | ⟨l, ⟨a, b⟩, e⟩
  · rw [mg_nil]
    exact ⟨⟨v1, v2, v3, trivial⟩, fun p => by rw [memR_cons, memR_nil, ← h.mem p, memR_nil]; simp, fun r hr => by rw [List.mem_singleton] at hr; subst hr; exact Int.le_refl _⟩
  · rw [List.concat_eq_append] at e
    subst e
    rw [mg_snoc]
    have hc := h.can
    obtain ⟨c1, c2, c3, c4⟩ := CanF.ends hc
    have hal : a ≤ f := h.lo (a, b) (by simp)
    have hm := fun p => h.mem p
    simp only
    split
    · rename_i hle
      refine ⟨CanF.last hc (by omega) (by omega), fun p => ?_, fun r hr => ?_⟩
      · rw [← h.mem p, memR_append, memR_append, memR_cons, memR_cons, memR_nil]
        cases memR l p
        · simp only [Bool.false_or, Bool.or_false]
          rw [Bool.eq_iff_iff]
          simp
          omega
        · simp
      · rcases List.mem_append.1 hr with q | q
        · have := h.lo r (List.mem_append_left _ q); omega
        · rw [List.mem_singleton] at q; subst q; simp only; omega
    · rename_i hgt
      refine ⟨CanF.snoc hc (fun r hr => ?_) (by omega) v2 v3, fun p => ?_, fun r hr => ?_⟩
      · rcases List.mem_append.1 hr with q | q
        · have := c4 r q; omega
        · rw [List.mem_singleton] at q; subst q; simp only; omega
      · rw [memR_append, h.mem p, memR_cons, memR_nil]; simp
      · rcases List.mem_append.1 hr with q | q
        · have := h.lo r q; omega
        · rw [List.mem_singleton] at q; subst q; exact Int.le_refl _
/-- What is taken in: cut to the points. -/
def clampR (r : Rg) : Rg := (max r.1 0, min r.2 MP)
def inOf (l : List Rg) : List Rg := (l.map clampR).filter fun r => decide (r.1 ≤ r.2)
theorem memR_inOf (l : List Rg) (p : Int) : memR (inOf l) p = inR l p := by
  unfold inR
  induction l with
  | nil => simp [inOf, memR]
  | cons r l ih =>
    obtain ⟨a, b⟩ := r
    have e : inOf ((a, b) :: l) = if max a 0 ≤ min b MP then (max a 0, min b MP) :: inOf l else inOf l := by
      unfold inOf
      rw [List.map_cons, List.filter_cons]
      by_cases q : max a 0 ≤ min b MP
      · rw [if_pos (by show decide (max a 0 ≤ min b MP) = true; exact decide_eq_true q), if_pos q]; rfl
      · rw [if_neg (by show ¬ decide (max a 0 ≤ min b MP) = true; rw [decide_eq_false q]; simp), if_neg q]
    rw [e, memR_cons]
    split
    · rw [memR_cons, ih]
      unfold isPt
      rw [Bool.eq_iff_iff]
      simp
      constructor
      · rintro (q | q)
        · exact ⟨⟨by omega, by omega⟩, .inl ⟨by omega, by omega⟩⟩
        · exact ⟨q.1, .inr q.2⟩
      · rintro ⟨q1, q | q⟩
        · exact .inl (by omega)
        · exact .inr ⟨q1, q⟩
    · rename_i hn
      rw [ih]
      unfold isPt
      cases memR l p
      · rw [Bool.eq_iff_iff]; simp; omega
      · simp
theorem inOf_val (l : List Rg) : ∀ r ∈ inOf l, ValR r := fun r hr => by
  unfold inOf at hr
  rw [List.mem_filter, List.mem_map] at hr
  obtain ⟨⟨q, _, rfl⟩, h⟩ := hr
  have h2 : max q.1 0 ≤ min q.2 MP := of_decide_eq_true h
  exact ⟨by show 0 ≤ max q.1 0; omega, h2, by show min q.2 MP ≤ MP; omega⟩
/-- All in order: the canonical form. -/
theorem mg_all : ∀ (l out : List Rg) (P : Int → Bool) (f : Int), MgS out P f → (∀ r ∈ l, ValR r) → (∀ r ∈ l, f ≤ r.1) → l.Pairwise (fun x y => x.1 ≤ y.1) → IsCan (l.foldl mg out) (fun p => P p || memR l p)
  | [], out, P, f, h, _, _, _ => ⟨h.can, fun p => by rw [memR_nil, Bool.or_false]; exact h.mem p⟩
  | r :: l, out, P, f, h, hv, hf, hp => by
    obtain ⟨p1, p2⟩ := List.pairwise_cons.1 hp
    have := mg_all l (mg out r) _ r.1 (h.step (hv r (by simp)) (hf r (by simp))) (fun x hx => hv x (List.mem_cons_of_mem _ hx)) p1 p2
    refine this.congr fun p => ?_
    obtain ⟨a, b⟩ := r
    rw [memR_cons, Bool.or_assoc]
theorem mem_memR {l m : List Rg} (h : ∀ r, r ∈ l ↔ r ∈ m) (p : Int) : memR l p = memR m p := by
  unfold memR
  rw [Bool.eq_iff_iff, List.any_eq_true, List.any_eq_true]
  exact ⟨fun ⟨r, a, b⟩ => ⟨r, (h r).1 a, b⟩, fun ⟨r, a, b⟩ => ⟨r, (h r).2 a, b⟩⟩
/-- Canon, however the ranges of one beginning stand. -/
theorem canon_is {l d : List Rg} (hm : ∀ r, r ∈ d ↔ r ∈ inOf l) (hp : d.Pairwise (fun x y => x.1 ≤ y.1)) : IsCan (d.foldl mg []) (inR l) :=
  (mg_all d [] _ 0 MgS.start (fun r hr => inOf_val l r ((hm r).1 hr)) (fun r hr => (inOf_val l r ((hm r).1 hr)).1) hp).congr fun p => by
    rw [Bool.false_or, mem_memR hm, memR_inOf]
end Go.Proofs.YthikgdogfkjioaaGreatDoor
