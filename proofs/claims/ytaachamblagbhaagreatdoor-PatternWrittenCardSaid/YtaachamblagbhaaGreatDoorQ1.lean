/- Plain: ranges of points; canonical sets; joined, met, the other points; edges. No program here. · Plain: patterns; which are valid; how much they weigh; their text. No program here. · Plain: the patterns that a list of parts makes. -/
import Derived.Lib.Hide
import Derived.Lib.ItoaNum
namespace Go.Proofs.YtaachamblagbhaaGreatDoor
set_option linter.unusedVariables false
set_option linter.unusedSimpArgs false

abbrev Rg := Int × Int
/-- The greatest point. -/
def MP : Int := 1114111
def memR (l : List Rg) (p : Int) : Bool := l.any fun r => decide (r.1 ≤ p) && decide (p ≤ r.2)
def isPt (p : Int) : Bool := decide (0 ≤ p) && decide (p ≤ MP)
def inR (l : List Rg) (p : Int) : Bool := isPt p && memR l p
/-- Canonical, from a point on. -/
def CanF : Int → List Rg → Prop
  | _, [] => True
  | f, (a, b) :: t => f ≤ a ∧ a ≤ b ∧ b ≤ MP ∧ CanF (b + 2) t
def Can (l : List Rg) : Prop := CanF 0 l
theorem memR_cons {a b : Int} {t : List Rg} {p : Int} : memR ((a, b) :: t) p = ((decide (a ≤ p) && decide (p ≤ b)) || memR t p) := by simp [memR]
theorem memR_append {l m : List Rg} {p : Int} : memR (l ++ m) p = (memR l p || memR m p) := by simp [memR]
theorem memR_nil {p : Int} : memR [] p = false := rfl
theorem CanF.below : ∀ {l : List Rg} {f p : Int}, CanF f l → p < f → memR l p = false
  | [], f, p, _, _ => rfl
  | (a, b) :: t, f, p, h, hp => by
    obtain ⟨h1, h2, h3, h4⟩ := h
    rw [memR_cons, CanF.below h4 (by omega)]
    simp; omega
theorem CanF.le : ∀ {l : List Rg} {f p : Int}, CanF f l → memR l p = true → f ≤ p ∧ p ≤ MP
  | [], f, p, _, h => by cases h
  | (a, b) :: t, f, p, h, hp => by
    obtain ⟨h1, h2, h3, h4⟩ := h
    rw [memR_cons] at hp
    simp only [Bool.or_eq_true, Bool.and_eq_true, decide_eq_true_eq] at hp
    rcases hp with q | q
    · omega
    · have := CanF.le h4 q; omega
theorem CanF.mono {l : List Rg} {f g : Int} (h : CanF f l) (hg : g ≤ f) : CanF g l := by
  cases l with
  | nil => trivial
  | cons r t => obtain ⟨a, b⟩ := r; exact ⟨by have := h.1; omega, h.2⟩
/-- The canonical form of a set is one. -/
theorem CanF.same : ∀ {l m : List Rg} {f g : Int}, CanF f l → CanF g m → (∀ p, memR l p = memR m p) → l = m
  | [], [], _, _, _, _, _ => rfl
  | [], (c, d) :: s, _, _, _, h, e => by
    have := e c
    rw [memR_nil, memR_cons] at this
    have h2 := h.2.1
    simp [h2] at this
  | (a, b) :: t, [], _, _, h, _, e => by
    have := e a
    rw [memR_nil, memR_cons] at this
    have h2 := h.2.1
    simp [h2] at this
  | (a, b) :: t, (c, d) :: s, f, g, h, k, e => by
    obtain ⟨h1, h2, h3, h4⟩ := h
    obtain ⟨k1, k2, k3, k4⟩ := k
    have hac : a = c := by
      have e1 := e a
      have e2 := e c
      rw [memR_cons, memR_cons] at e1 e2
      rcases Int.lt_trichotomy a c with q | q | q
      · rw [CanF.below k4 (by omega), CanF.below h4 (by omega)] at e1
        rw [Bool.eq_iff_iff] at e1; simp at e1; omega
      · exact q
      · rw [CanF.below h4 (by omega), CanF.below k4 (by omega)] at e2
        rw [Bool.eq_iff_iff] at e2; simp at e2; omega
    subst hac
    have hbd : b = d := by
      rcases Int.lt_trichotomy b d with q | q | q
      · have e1 := e (b + 1)
        rw [memR_cons, memR_cons, CanF.below h4 (by omega), CanF.below k4 (by omega)] at e1
        rw [Bool.eq_iff_iff] at e1; simp at e1; omega
      · exact q
      · have e1 := e (d + 1)
        rw [memR_cons, memR_cons, CanF.below k4 (by omega), CanF.below h4 (by omega)] at e1
        rw [Bool.eq_iff_iff] at e1; simp at e1; omega
    subst hbd
    have : t = s := CanF.same h4 k4 fun p => by
      by_cases q : p < b + 2
      · rw [CanF.below h4 q, CanF.below k4 q]
      · have e1 := e p
        rw [memR_cons, memR_cons] at e1
        have d1 : decide (p ≤ b) = false := decide_eq_false (by omega)
        rw [d1] at e1
        simpa using e1
    rw [this]
/-- A set's canonical form. -/
structure IsCan (l : List Rg) (P : Int → Bool) : Prop where
  can : Can l
  mem : ∀ p, memR l p = P p
theorem IsCan.same {l m : List Rg} {P Q : Int → Bool} (h : IsCan l P) (k : IsCan m Q) (e : ∀ p, P p = Q p) : l = m :=
  CanF.same h.can k.can fun p => by rw [h.mem, k.mem, e]
theorem IsCan.inR {l : List Rg} {P : Int → Bool} (h : IsCan l P) (p : Int) : inR l p = P p := by
  unfold Proofs.YtaachamblagbhaaGreatDoor.inR
  rw [h.mem]
  cases e : P p
  · simp
  · have := CanF.le h.can (by rw [h.mem]; exact e)
    simp [isPt, this]
theorem IsCan.congr {l : List Rg} {P Q : Int → Bool} (h : IsCan l P) (e : ∀ p, P p = Q p) : IsCan l Q := ⟨h.can, fun p => (h.mem p).trans (e p)⟩

/-! ### one range more behind -/
/-- What ends at or ahead of a point. -/
def EndsBy (l : List Rg) (e : Int) : Prop := ∀ r ∈ l, r.2 ≤ e
theorem CanF.snoc : ∀ {l : List Rg} {f a b : Int}, CanF f l → (∀ r ∈ l, r.2 + 2 ≤ a) → f ≤ a → a ≤ b → b ≤ MP → CanF f (l ++ [(a, b)])
  | [], f, a, b, _, _, h1, h2, h3 => ⟨h1, h2, h3, trivial⟩
  | (c, d) :: t, f, a, b, h, hl, h1, h2, h3 => ⟨h.1, h.2.1, h.2.2.1, CanF.snoc h.2.2.2 (fun r hr => hl r (List.mem_cons_of_mem _ hr)) (hl (c, d) (by simp)) h2 h3⟩
theorem CanF.last : ∀ {l : List Rg} {f a b b' : Int}, CanF f (l ++ [(a, b)]) → b ≤ b' → b' ≤ MP → CanF f (l ++ [(a, b')])
  | [], f, a, b, b', h, h1, h2 => ⟨h.1, by have := h.2.1; omega, h2, trivial⟩
  | (c, d) :: t, f, a, b, b', h, h1, h2 => ⟨h.1, h.2.1, h.2.2.1, CanF.last h.2.2.2 h1 h2⟩
theorem CanF.ends : ∀ {l : List Rg} {f a b : Int}, CanF f (l ++ [(a, b)]) → f ≤ a ∧ a ≤ b ∧ b ≤ MP ∧ ∀ r ∈ l, r.2 + 2 ≤ a
  | [], f, a, b, h => ⟨h.1, h.2.1, h.2.2.1, fun r hr => by cases hr⟩
  | (c, d) :: t, f, a, b, h => by
    obtain ⟨h1, h2, h3, h4⟩ := CanF.ends (l := t) h.2.2.2
    have := h.1; have := h.2.1
    refine ⟨by omega, h2, h3, fun r hr => ?_⟩
    rcases List.mem_cons.1 hr with rfl | q
    · exact h1
    · exact h4 r q

/-! ### Canon: ranges in order, one after the other -/
def mg (out : List Rg) (r : Rg) : List Rg :=
  match out.reverse with
  | [] => [r]
  | (a, b) :: t => if r.1 ≤ b + 1 then t.reverse ++ [(a, max b r.2)] else out ++ [r]
theorem mg_nil (r : Rg) : mg [] r = [r] := rfl
theorem mg_snoc (l : List Rg) (a b : Int) (r : Rg) : mg (l ++ [(a, b)]) r = if r.1 ≤ b + 1 then l ++ [(a, max b r.2)] else l ++ [(a, b)] ++ [r] := by
  unfold mg
  simp
def ValR (r : Rg) : Prop := 0 ≤ r.1 ∧ r.1 ≤ r.2 ∧ r.2 ≤ MP
/-- Canonical so far, no range begins later than from. -/
structure MgS (out : List Rg) (P : Int → Bool) (f : Int) : Prop where
  can : Can out
  mem : ∀ p, memR out p = P p
  lo : ∀ r ∈ out, r.1 ≤ f
theorem MgS.start : MgS [] (fun _ => false) 0 := ⟨trivial, fun _ => rfl, fun r hr => by cases hr⟩
theorem MgS.step {out : List Rg} {P : Int → Bool} {f : Int} {r : Rg} (h : MgS out P f) (hv : ValR r) (hf : f ≤ r.1) : MgS (mg out r) (fun p => P p || (decide (r.1 ≤ p) && decide (p ≤ r.2))) r.1 := by
  obtain ⟨lo, hi⟩ := r
  obtain ⟨v1, v2, v3⟩ := hv
  simp only at v1 v2 v3 hf
  rcases List.eq_nil_or_concat out with rfl | ⟨l, ⟨a, b⟩, e⟩
  · rw [mg_nil]
    exact ⟨⟨v1, v2, v3, trivial⟩, fun p => by rw [memR_cons, memR_nil, ← h.mem p, memR_nil]; simp, fun r hr => by rw [List.mem_singleton] at hr; subst hr; exact Int.le_refl _⟩
  · rw [List.concat_eq_append] at e
    subst e
    rw [mg_snoc]
    have hc := h.can
    obtain ⟨c1, c2, c3, c4⟩ := CanF.ends hc
    have hal : a ≤ f := h.lo (a, b) (by simp)
    have hm := fun p => h.mem p
    simp only
    split
    · rename_i hle
      refine ⟨CanF.last hc (by omega) (by omega), fun p => ?_, fun r hr => ?_⟩
      · rw [← h.mem p, memR_append, memR_append, memR_cons, memR_cons, memR_nil]
        cases memR l p
        · simp only [Bool.false_or, Bool.or_false]
          rw [Bool.eq_iff_iff]
          simp
          omega
        · simp
      · rcases List.mem_append.1 hr with q | q
        · have := h.lo r (List.mem_append_left _ q); omega
        · rw [List.mem_singleton] at q; subst q; simp only; omega
    · rename_i hgt
      refine ⟨CanF.snoc hc (fun r hr => ?_) (by omega) v2 v3, fun p => ?_, fun r hr => ?_⟩
      · rcases List.mem_append.1 hr with q | q
        · have := c4 r q; omega
        · rw [List.mem_singleton] at q; subst q; simp only; omega
      · rw [memR_append, h.mem p, memR_cons, memR_nil]; simp
      · rcases List.mem_append.1 hr with q | q
        · have := h.lo r q; omega
        · rw [List.mem_singleton] at q; subst q; exact Int.le_refl _
/-- What is taken in: cut to the points. -/
def clampR (r : Rg) : Rg := (max r.1 0, min r.2 MP)
def inOf (l : List Rg) : List Rg := (l.map clampR).filter fun r => decide (r.1 ≤ r.2)
theorem memR_inOf (l : List Rg) (p : Int) : memR (inOf l) p = inR l p := by
  unfold inR
  induction l with
  | nil => simp [inOf, memR]
  | cons r l ih =>
    obtain ⟨a, b⟩ := r
    have e : inOf ((a, b) :: l) = if max a 0 ≤ min b MP then (max a 0, min b MP) :: inOf l else inOf l := by
      unfold inOf
      rw [List.map_cons, List.filter_cons]
      by_cases q : max a 0 ≤ min b MP
      · rw [if_pos (by show decide (max a 0 ≤ min b MP) = true; exact decide_eq_true q), if_pos q]; rfl
      · rw [if_neg (by show ¬ decide (max a 0 ≤ min b MP) = true; rw [decide_eq_false q]; simp), if_neg q]
    rw [e, memR_cons]
    split
    · rw [memR_cons, ih]
      unfold isPt
      rw [Bool.eq_iff_iff]
      simp
      constructor
      · rintro (q | q)
        · exact ⟨⟨by omega, by omega⟩, .inl ⟨by omega, by omega⟩⟩
        · exact ⟨q.1, .inr q.2⟩
      · rintro ⟨q1, q | q⟩
        · exact .inl (by omega)
        · exact .inr ⟨q1, q⟩
    · rename_i hn
      rw [ih]
      unfold isPt
      cases memR l p
      · rw [Bool.eq_iff_iff]; simp; omega
      · simp
theorem inOf_val (l : List Rg) : ∀ r ∈ inOf l, ValR r := fun r hr => by
  unfold inOf at hr
  rw [List.mem_filter, List.mem_map] at hr
  obtain ⟨⟨q, _, rfl⟩, h⟩ := hr
  have h2 : max q.1 0 ≤ min q.2 MP := of_decide_eq_true h
  exact ⟨by show 0 ≤ max q.1 0; omega, h2, by show min q.2 MP ≤ MP; omega⟩
/-- All in order: the canonical form. -/
theorem mg_all : ∀ (l out : List Rg) (P : Int → Bool) (f : Int), MgS out P f → (∀ r ∈ l, ValR r) → (∀ r ∈ l, f ≤ r.1) → l.Pairwise (fun x y => x.1 ≤ y.1) → IsCan (l.foldl mg out) (fun p => P p || memR l p)
  | [], out, P, f, h, _, _, _ => ⟨h.can, fun p => by rw [memR_nil, Bool.or_false]; exact h.mem p⟩
  | r :: l, out, P, f, h, hv, hf, hp => by
    obtain ⟨p1, p2⟩ := List.pairwise_cons.1 hp
    have := mg_all l (mg out r) _ r.1 (h.step (hv r (by simp)) (hf r (by simp))) (fun x hx => hv x (List.mem_cons_of_mem _ hx)) p1 p2
    refine this.congr fun p => ?_
    obtain ⟨a, b⟩ := r
    rw [memR_cons, Bool.or_assoc]
theorem mem_memR {l m : List Rg} (h : ∀ r, r ∈ l ↔ r ∈ m) (p : Int) : memR l p = memR m p := by
  unfold memR
  rw [Bool.eq_iff_iff, List.any_eq_true, List.any_eq_true]
  exact ⟨fun ⟨r, a, b⟩ => ⟨r, (h r).1 a, b⟩, fun ⟨r, a, b⟩ => ⟨r, (h r).2 a, b⟩⟩
/-- Canon, however the ranges of one beginning stand. -/
theorem canon_is {l d : List Rg} (hm : ∀ r, r ∈ d ↔ r ∈ inOf l) (hp : d.Pairwise (fun x y => x.1 ≤ y.1)) : IsCan (d.foldl mg []) (inR l) :=
  (mg_all d [] _ 0 MgS.start (fun r hr => inOf_val l r ((hm r).1 hr)) (fun r hr => (inOf_val l r ((hm r).1 hr)).1) hp).congr fun p => by
    rw [Bool.false_or, mem_memR hm, memR_inOf]
end Go.Proofs.YtaachamblagbhaaGreatDoor
namespace Go.Proofs.YtaachamblagbhaaGreatDoor
set_option linter.unusedVariables false
set_option linter.unusedSimpArgs false

/-- A pattern: kind, set, least and most times, kids. -/
inductive Rx where
  | nil : Rx
  | node : Int → List Rg → Int → Int → List Rx → Rx
instance : Inhabited Rx := ⟨.nil⟩

def canB : Int → List Rg → Bool
  | _, [] => true
  | f, (a, b) :: t => decide (f ≤ a) && decide (a ≤ b) && decide (b ≤ MP) && canB (b + 2) t
theorem canB_iff : ∀ {l : List Rg} {f : Int}, canB f l = true ↔ CanF f l
  | [], f => by simp [canB, CanF]
  | (a, b) :: t, f => by
    rw [canB, CanF]
    simp only [Bool.and_eq_true, decide_eq_true_eq, canB_iff (l := t)]
    constructor
    · rintro ⟨⟨⟨h1, h2⟩, h3⟩, h4⟩; exact ⟨h1, h2, h3, h4⟩
    · rintro ⟨h1, h2, h3, h4⟩; exact ⟨⟨⟨h1, h2⟩, h3⟩, h4⟩
/-- A set and its canonical form. -/
theorem can_self {l : List Rg} (h : Can l) : IsCan l (inR l) := ⟨h, fun p => by
  unfold inR
  cases e : memR l p
  · simp
  · have := CanF.le h e
    simp [isPt, this]⟩
theorem can_eq {l out : List Rg} (h : IsCan out (inR l)) : decide (out = l) = canB 0 l := by
  cases e : canB 0 l
  · refine decide_eq_false fun q => ?_
    subst q
    rw [canB_iff.2 h.can] at e
    cases e
  · exact decide_eq_true (h.same (can_self (canB_iff.1 e)) fun _ => rfl)

/-- May a pattern of a kind have so many kids? -/
def cntOk (k : Int) (n : Nat) : Bool :=
  if k = 1 then decide (n = 0) else if k = 2 then decide (n ≠ 1) else if k = 3 ∨ k = 4 then decide (2 ≤ n) else if k = 5 ∨ k = 6 then decide (n = 1) else false
/-- May it stand so many times? -/
def tmsOk (k mn mx : Int) : Bool :=
  if k = 6 then decide (0 ≤ mn) && decide (mn ≤ 50) && (decide (mx = -1) || (decide (mn ≤ mx) && decide (1 ≤ mx) && decide (mx ≤ 50))) else decide (mn = 0) && decide (mx = 0)
def setOk (k : Int) (s : List Rg) : Bool := canB 0 s && (decide (k = 1) || decide (s = []))
mutual
def shp : Nat → Rx → Bool
  | _, .nil => false
  | d, .node k s mn mx ks => decide (d ≤ 30) && cntOk k ks.length && tmsOk k mn mx && setOk k s && shpL (d + 1) ks
def shpL : Nat → List Rx → Bool
  | _, [] => true
  | d, k :: ks => shp d k && shpL d ks
end
theorem shpL_mem : ∀ {d : Nat} {ks : List Rx}, shpL d ks = true → ∀ k ∈ ks, shp d k = true
  | d, [], _, k, h => by cases h
  | d, x :: ks, h, k, hk => by
    rw [shpL, Bool.and_eq_true] at h
    rcases List.mem_cons.1 hk with rfl | q
    · exact h.1
    · exact shpL_mem h.2 k q
theorem shpL_take {d : Nat} : ∀ {ks : List Rx} {i : Nat} {k : Rx}, ks[i]? = some k → shpL d (ks.take (i + 1)) = (shpL d (ks.take i) && shp d k)
  | [], i, k, h => by simp at h
  | x :: ks, 0, k, h => by
    simp at h
    subst h
    simp [shpL]
  | x :: ks, i + 1, k, h => by
    have := shpL_take (d := d) (ks := ks) (i := i) (k := k) (by simpa using h)
    rw [List.take_succ_cons, shpL, this, List.take_succ_cons, shpL, Bool.and_assoc]
theorem shpL_no {d : Nat} : ∀ {ks : List Rx} {i : Nat}, shpL d (ks.take i) = false → shpL d ks = false
  | [], i, h => by simpa using h
  | x :: ks, 0, h => by simp [shpL] at h
  | x :: ks, i + 1, h => by
    rw [List.take_succ_cons, shpL] at h
    rw [shpL]
    cases e : shp d x
    · rfl
    · rw [e] at h
      rw [shpL_no (ks := ks) (i := i) (by simpa using h)]
      rfl
/-- How often the kid counts. -/
def tmW (k mn mx : Int) : Nat := if k = 6 then (max (max mn mx) 1).toNat else 1
mutual
/-- The weight, not cut off. -/
def wei : Rx → Nat
  | .nil => 0
  | .node k _ mn mx ks => if k = 1 then 1 else weiL ks * tmW k mn mx + 1
def weiL : List Rx → Nat
  | [] => 0
  | k :: ks => wei k + weiL ks
end
theorem weiL_take : ∀ {ks : List Rx} {i : Nat} {k : Rx}, ks[i]? = some k → weiL (ks.take (i + 1)) = weiL (ks.take i) + wei k
  | [], i, k, h => by simp at h
  | x :: ks, 0, k, h => by
    simp at h
    subst h
    simp [weiL]
  | x :: ks, i + 1, k, h => by
    have := weiL_take (ks := ks) (i := i) (k := k) (by simpa using h)
    rw [List.take_succ_cons, weiL, this, List.take_succ_cons, weiL, Nat.add_assoc]
theorem weiL_le : ∀ {ks : List Rx} {i : Nat}, weiL (ks.take i) ≤ weiL ks
  | [], i => by simp
  | x :: ks, 0 => by simp [weiL]
  | x :: ks, i + 1 => by rw [List.take_succ_cons, weiL, weiL]; have := weiL_le (ks := ks) (i := i); omega
theorem weiL_mem : ∀ {ks : List Rx} {k : Rx}, k ∈ ks → wei k ≤ weiL ks
  | [], k, h => by cases h
  | x :: ks, k, h => by
    rw [weiL]
    rcases List.mem_cons.1 h with rfl | q
    · omega
    · have := weiL_mem q; omega
theorem tmW_pos (k mn mx : Int) : 1 ≤ tmW k mn mx := by unfold tmW; split <;> omega
theorem tmW_le {k mn mx : Int} (h : tmsOk k mn mx = true) : tmW k mn mx ≤ 50 := by
  unfold tmsOk at h
  unfold tmW
  split
  · rename_i q
    rw [if_pos q] at h
    simp only [Bool.and_eq_true, Bool.or_eq_true, decide_eq_true_eq] at h
    omega
  · omega
/-- Cut off at 61. -/
def wtc (p : Rx) : Nat := min (wei p) 61
/-- Is it valid? -/
def okX (p : Rx) : Bool := shp 0 p && decide (wei p ≤ 60)

/-! ### the text -/
def rank : Rx → Nat
  | .nil => 4
  | .node k _ _ _ _ => if k = 3 then 0 else if k = 4 then 1 else if k = 2 then 2 else if k = 6 then 3 else 4
def hexD (u : Nat) : List UInt8 := if h : u < 16 then [(if u < 10 then 48 + u else 87 + u).toUInt8] else hexD (u / 16) ++ [(if u % 16 < 10 then 48 + u % 16 else 87 + u % 16).toUInt8]
/-- The text of a point. -/
def ptx (p : Int) : List UInt8 :=
  if (48 ≤ p ∧ p ≤ 57) ∨ (65 ≤ p ∧ p ≤ 90) ∨ (97 ≤ p ∧ p ≤ 122) then [p.toNat.toUInt8] else [92, 117, 123] ++ hexD p.toNat ++ [125]
def rgx (r : Rg) : List UInt8 := ptx r.1 ++ (if r.1 < r.2 then [45] ++ ptx r.2 else [])
def rgsx : List Rg → List UInt8
  | [] => []
  | r :: t => rgx r ++ rgsx t
theorem rgsx_append : ∀ (a b : List Rg), rgsx (a ++ b) = rgsx a ++ rgsx b
  | [], b => by rw [List.nil_append, rgsx, List.nil_append]
  | r :: a, b => by rw [List.cons_append, rgsx, rgsx, rgsx_append a b, List.append_assoc]
/-- Is it one point? -/
def oneP : List Rg → Bool
  | [(a, b)] => decide (a = b)
  | _ => false
def setx (l : List Rg) : List UInt8 := if oneP l = true then ptx (l.headD (0, 0)).1 else [91] ++ rgsx l ++ [93]
/-- Texts joined, a sign between. -/
def joinB (sep : List UInt8) : List (List UInt8) → List UInt8
  | [] => []
  | [a] => a
  | a :: b :: t => a ++ sep ++ joinB sep (b :: t)
def brk (t : List UInt8) : List UInt8 := [40] ++ t ++ [41]
/-- What stands behind what is repeated. -/
def pst (mn mx : Int) : List UInt8 :=
  if mn = 0 ∧ mx = -1 then [42] else if mn = 1 ∧ mx = -1 then [43] else if mn = 0 ∧ mx = 1 then [63]
  else if mx = -1 then [123] ++ Lib.itoa mn ++ [44, 125] else if mn = mx then [123] ++ Lib.itoa mn ++ [125] else [123] ++ Lib.itoa mn ++ [44] ++ Lib.itoa mx ++ [125]
mutual
def txX : Rx → List UInt8
  | .nil => []
  | .node k s mn mx ks =>
    if k = 1 then setx s
    else if k = 3 then joinB [124] (txL 1 ks)
    else if k = 4 then joinB [38] (txL 2 ks)
    else if k = 2 then joinB [] (txL 3 ks)
    else if k = 5 then [126] ++ (txL 4 ks).headD []
    else (txL 3 ks).headD [] ++ pst mn mx
def txL : Nat → List Rx → List (List UInt8)
  | _, [] => []
  | n, k :: ks => (if rank k < n then brk (txX k) else txX k) :: txL n ks
end
/-- A kid's text, in brackets where it binds less strongly than asked. -/
def witX (n : Nat) (p : Rx) : List UInt8 := if rank p < n then brk (txX p) else txX p
theorem txL_map (n : Nat) : ∀ ks : List Rx, txL n ks = ks.map (witX n)
  | [] => by rw [txL]; rfl
  | k :: ks => by rw [txL, txL_map n ks]; rfl
end Go.Proofs.YtaachamblagbhaaGreatDoor
namespace Go.Proofs.YtaachamblagbhaaGreatDoor
set_option linter.unusedVariables false
set_option linter.unusedSimpArgs false

/-- A part: kind, least and most times, set, kids. -/
abbrev Pw := Int × Int × Int × List Rg × List Int
def kidR (ts : List Rx) (k : Int) : Rx := if 0 ≤ k ∧ k.toNat < ts.length then ts.getD k.toNat .nil else .nil
def mkR (ts : List Rx) (x : Pw) : Rx := .node x.1 x.2.2.2.1 x.2.1 x.2.2.1 (x.2.2.2.2.map (kidR ts))
def grownR (ts : List Rx) (x : Pw) : List Rx := ts ++ [mkR ts x]
def builtR (Q : List Pw) : List Rx := Q.foldl grownR []
theorem builtR_snoc (Q : List Pw) (x : Pw) : builtR (Q ++ [x]) = grownR (builtR Q) x := by unfold builtR; rw [List.foldl_append]; rfl
theorem foldl_grownR_len : ∀ (Q : List Pw) (a : List Rx), (Q.foldl grownR a).length = a.length + Q.length
  | [], a => rfl
  | x :: Q, a => by rw [List.foldl_cons, foldl_grownR_len Q]; unfold grownR; simp; omega
theorem builtR_len (Q : List Pw) : (builtR Q).length = Q.length := by unfold builtR; rw [foldl_grownR_len]; simp
theorem builtR_take {Q : List Pw} {k : Nat} {x : Pw} (h : Q[k]? = some x) : builtR (Q.take (k + 1)) = grownR (builtR (Q.take k)) x := by
  have hk := (List.getElem?_eq_some_iff.1 h).1
  have e : Q[k] = x := (List.getElem?_eq_some_iff.1 h).2
  rw [List.take_succ_eq_append_getElem hk, builtR_snoc, e]
def reOf (Q : List Pw) : Rx := (builtR Q).getLastD .nil
theorem kidR_yes {ts : List Rx} {k : Int} (h : 0 ≤ k ∧ k < (ts.length : Int)) : kidR ts k = ts.getD k.toNat .nil := if_pos ⟨h.1, by omega⟩
theorem kidR_no {ts : List Rx} {k : Int} (h : ¬ (0 ≤ k ∧ k < (ts.length : Int))) : kidR ts k = .nil := if_neg fun q => h ⟨q.1, by omega⟩
/-- All its numbers are ints, and its sets are short. -/
inductive IntR : Rx → Prop where
  | nil : IntR .nil
  | node {k mn mx : Int} {s : List Rg} {ks : List Rx} : -9223372036854775808 ≤ k → k ≤ 9223372036854775807 → -9223372036854775808 ≤ mn → mn ≤ 9223372036854775807 → -9223372036854775808 ≤ mx → mx ≤ 9223372036854775807 → s.length ≤ 12 → (∀ k ∈ ks, IntR k) → IntR (.node k s mn mx ks)
theorem intR_kid {ts : List Rx} (h : ∀ t ∈ ts, IntR t) (k : Int) : IntR (kidR ts k) := by
  unfold kidR
  split
  · rename_i q
    have hm : ts.getD k.toNat .nil ∈ ts := by
      have : ts.getD k.toNat .nil = ts[k.toNat]'q.2 := by simp [q.2]
      rw [this]; exact List.getElem_mem _
    exact h _ hm
  · exact .nil
end Go.Proofs.YtaachamblagbhaaGreatDoor
