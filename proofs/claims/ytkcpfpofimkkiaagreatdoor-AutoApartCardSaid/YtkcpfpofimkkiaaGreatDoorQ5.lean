/- Plain: the least automaton by points alone; whoever reckons it by classes comes to it. No program here. · Plain: ranges of points; canonical sets; joined, met, the other points; edges. No program here. · Plain: the other points; what lies in both; edges, and sets made one by them. No program here. -/
import Derived.Test.YtkcpfpofimkkiaaGreatDoorQ4
import Derived.Lib.Hide
namespace Go.Proofs.YtkcpfpofimkkiaaGreatDoor
set_option linter.unusedVariables false
set_option linter.unusedSimpArgs false

/-- The state behind a point; l.length: the dead one. -/
def dlt (l : List St) (s : Nat) (p : Int) : Nat := match l[s]? with
  | some st => if 0 ≤ stp st.2 p then (stp st.2 p).toNat else l.length
  | none => l.length
def rul (l : List St) (s : Nat) : Int := match l[s]? with
  | some st => st.1
  | none => -1
def isP (p : Int) : Prop := 0 ≤ p ∧ p ≤ 1114111
theorem dlt_le {l : List St} (h : okA l = true) (s : Nat) (p : Int) : dlt l s p ≤ l.length := by
  unfold dlt
  split
  · rename_i st hs
    have := stp_range (p := p) (okA_state h hs).2
    split <;> omega
  · exact Nat.le_refl _
open Classical in
/-- States and points as they are. -/
noncomputable def eQ (l : List St) : Env Nat := ⟨fun s => decide (Live (rul l) (dlt l) isP s), fun s t => decide (Eqv (rul l) (dlt l) isP s t), dlt l, rul l⟩
theorem eQ_refl (l : List St) (s : Nat) : (eQ l).same s s = true := by unfold eQ; simp [Eqv.refl]
/-- Classes of points on which all states step alike. -/
structure Cls (l : List St) (K : Nat) (rep : Nat → Int) (cls : Int → Nat) : Prop where
  lt : ∀ p, isP p → cls p < K
  rv : ∀ c, c < K → isP (rep c) ∧ cls (rep c) = c
  co : ∀ s p, isP p → dlt l s p = dlt l s (rep (cls p))
section
variable {l : List St} {K : Nat} {rep : Nat → Int} {cls : Int → Nat}
theorem Cls.eqv (h : Cls l K rep cls) {s t : Nat} : Eqv (rul l) (dlt l) isP s t ↔ Eqv (rul l) (fun s c => dlt l s (rep c)) (· < K) s t :=
  eqv_letters (f := cls) (fun s p hp => h.co s p hp) (fun p hp => h.lt p hp) (fun c hc => ⟨rep c, (h.rv c hc).1, (h.rv c hc).2⟩)
theorem Cls.live (h : Cls l K rep cls) {s : Nat} : Live (rul l) (dlt l) isP s ↔ Live (rul l) (fun s c => dlt l s (rep c)) (· < K) s :=
  live_letters (f := cls) (fun s p hp => h.co s p hp) (fun p hp => h.lt p hp) (fun c hc => ⟨rep c, (h.rv c hc).1, (h.rv c hc).2⟩)
open Classical in
/-- By a table of what differs. -/
theorem table_env (hok : okA l = true) (h : Cls l K rep cls) {d : Nat → Nat → Bool} {no : Nat → Bool} (hd : ∀ s t, s ≤ l.length → t ≤ l.length → (d s t = false ↔ Eqv (rul l) (fun s c => dlt l s (rep c)) (· < K) s t)) (hno : ∀ s, s ≤ l.length → (no s = false ↔ Live (rul l) (fun s c => dlt l s (rep c)) (· < K) s))
    {pcs : List (Int × Int)} (hp : ∀ pc ∈ pcs, isP pc.1) : EnvR (fun s t => s = t ∧ s ≤ l.length) ⟨fun s => !no s, fun s t => !d s t, fun s p => dlt l s (rep (cls p)), rul l⟩ (eQ l) pcs := by
  refine ⟨fun x y ⟨e, hx⟩ => ?_, fun x y x' y' ⟨e, hx⟩ ⟨e', hx'⟩ => ?_, fun x y ⟨e, hx⟩ pc hpc => ?_, fun x y ⟨e, hx⟩ => by subst e; rfl⟩
  · subst e
    show (!no x) = decide _
    have h1 := hno x hx
    rw [← h.live] at h1
    cases q : no x with
    | false => rw [decide_eq_true (h1.1 q)]; rfl
    | true => rw [decide_eq_false (fun k => by rw [h1.2 k] at q; cases q)]; rfl
  · subst e e'
    show (!d x x') = decide _
    have h1 := hd x x' hx hx'
    rw [← h.eqv] at h1
    cases q : d x x' with
    | false => rw [decide_eq_true (h1.1 q)]; rfl
    | true => rw [decide_eq_false (fun k => by rw [h1.2 k] at q; cases q)]; rfl
  · subst e
    exact ⟨(h.co x _ (hp pc hpc)).symm, dlt_le hok _ _⟩
open Classical in
/-- By parts that stand for states. -/
theorem parts_env (h : Cls l K rep cls) {R : Nat → Nat → Prop} {ruM : Nat → Int} {mvM : Nat → Nat → Nat} {al : Nat → Bool} (h1 : ∀ k s, R k s → ruM k = rul l s) (h2 : ∀ k s c, R k s → c < K → R (mvM k c) (dlt l s (rep c)))
    (h3 : ∀ k s k' s', R k s → R k' s' → (k = k' ↔ Eqv (rul l) (fun s c => dlt l s (rep c)) (· < K) s s')) (h4 : ∀ k s, R k s → (al k = true ↔ Live ruM mvM (· < K) k)) {pcs : List (Int × Int)} (hp : ∀ pc ∈ pcs, isP pc.1) :
    EnvR R ⟨al, fun a b => decide (a = b), fun k p => mvM k (cls p), ruM⟩ (eQ l) pcs := by
  refine ⟨fun x y hx => ?_, fun x y x' y' hx hx' => ?_, fun x y hx pc hpc => ?_, fun x y hx => h1 x y hx⟩
  · show al x = decide _
    have q := (h4 x y hx).trans ((live_rel h1 h2 hx).trans h.live.symm)
    cases e : al x with
    | true => rw [decide_eq_true (q.1 e)]
    | false => rw [decide_eq_false (fun k => by rw [q.2 k] at e; cases e)]
  · show decide (x = x') = decide _
    have q := (h3 x y x' y' hx hx').trans h.eqv.symm
    exact decide_eq_decide.2 q
  · show R (mvM x (cls pc.1)) (dlt l y pc.1)
    rw [h.co y _ (hp pc hpc)]
    exact h2 x y _ hx (h.lt _ (hp pc hpc))
end
/-- Two ways to build that stand for the same come to the same, over whatever stretches. -/
theorem builds_same {σ τ : Type} {l : List St} {R : σ → Nat → Prop} {S : τ → Nat → Prop} {e : Env σ} {d : Env τ} {p1 p2 : List (Int × Int)} (h1 : EnvR R e (eQ l) p1) (h2 : EnvR S d (eQ l) p2) (t1 : Tiles 0 p1 1114111) (t2 : Tiles 0 p2 1114111)
    (c1 : ∀ s, ∀ pc ∈ p1, ∀ p, pc.1 ≤ p → p ≤ pc.2 → dlt l s p = dlt l s pc.1) (c2 : ∀ s, ∀ pc ∈ p2, ∀ p, pc.1 ≤ p → p ≤ pc.2 → dlt l s p = dlt l s pc.1) {x : σ} {y : τ} {s : Nat} (hx : R x s) (hy : S y s) (f : Nat) :
    (build e p1 f 0 [x] []).2 = (build d p2 f 0 [y] []).2 ∧ (build e p1 f 0 [x] []).1.length = (build d p2 f 0 [y] []).1.length := by
  have a1 := build_rel h1 f 0 [x] [s] [] (.cons hx .nil)
  have a2 := build_rel h2 f 0 [y] [s] [] (.cons hy .nil)
  have b1 := build_tiles (e := eQ l) (eQ_refl l) t1 c1 f 0 [s] []
  have b2 := build_tiles (e := eQ l) (eQ_refl l) t2 c2 f 0 [s] []
  rw [b1] at a1
  rw [b2] at a2
  exact ⟨a1.1.trans a2.1.symm, a1.2.length.trans a2.2.length.symm⟩
end Go.Proofs.YtkcpfpofimkkiaaGreatDoor
namespace Go.Proofs.YtkcpfpofimkkiaaGreatDoor
set_option linter.unusedVariables false
set_option linter.unusedSimpArgs false

abbrev Rg := Int × Int
/-- The greatest point. -/
def MP : Int := 1114111
def memR (l : List Rg) (p : Int) : Bool := l.any fun r => decide (r.1 ≤ p) && decide (p ≤ r.2)
def isPt (p : Int) : Bool := decide (0 ≤ p) && decide (p ≤ MP)
def inR (l : List Rg) (p : Int) : Bool := isPt p && memR l p
/-- Canonical, from a point on. -/
def CanF : Int → List Rg → Prop
  | _, [] => True
  | f, (a, b) :: t => f ≤ a ∧ a ≤ b ∧ b ≤ MP ∧ CanF (b + 2) t
def Can (l : List Rg) : Prop := CanF 0 l
theorem memR_cons {a b : Int} {t : List Rg} {p : Int} : memR ((a, b) :: t) p = ((decide (a ≤ p) && decide (p ≤ b)) || memR t p) := by simp [memR]
theorem memR_append {l m : List Rg} {p : Int} : memR (l ++ m) p = (memR l p || memR m p) := by simp [memR]
theorem memR_nil {p : Int} : memR [] p = false := rfl
theorem CanF.below : ∀ {l : List Rg} {f p : Int}, CanF f l → p < f → memR l p = false
  | [], f, p, _, _ => rfl
  | (a, b) :: t, f, p, h, hp => by
    obtain ⟨h1, h2, h3, h4⟩ := h
    rw [memR_cons, CanF.below h4 (by omega)]
    simp; omega
theorem CanF.le : ∀ {l : List Rg} {f p : Int}, CanF f l → memR l p = true → f ≤ p ∧ p ≤ MP
  | [], f, p, _, h => by cases h
  | (a, b) :: t, f, p, h, hp => by
    obtain ⟨h1, h2, h3, h4⟩ := h
    rw [memR_cons] at hp
    simp only [Bool.or_eq_true, Bool.and_eq_true, decide_eq_true_eq] at hp
    rcases hp with q | q
    · omega
    · have := CanF.le h4 q; omega
theorem CanF.mono {l : List Rg} {f g : Int} (h : CanF f l) (hg : g ≤ f) : CanF g l := by
  cases l with
  | nil => trivial
  | cons r t => obtain ⟨a, b⟩ := r; exact ⟨by have := h.1; omega, h.2⟩
/-- The canonical form of a set is one. -/
theorem CanF.same : ∀ {l m : List Rg} {f g : Int}, CanF f l → CanF g m → (∀ p, memR l p = memR m p) → l = m
  | [], [], _, _, _, _, _ => rfl
  | [], (c, d) :: s, _, _, _, h, e => by
    have := e c
    rw [memR_nil, memR_cons] at this
    have h2 := h.2.1
    simp [h2] at this
  | (a, b) :: t, [], _, _, h, _, e => by
    have := e a
    rw [memR_nil, memR_cons] at this
    have h2 := h.2.1
    simp [h2] at this
  | (a, b) :: t, (c, d) :: s, f, g, h, k, e => by
    obtain ⟨h1, h2, h3, h4⟩ := h
    obtain ⟨k1, k2, k3, k4⟩ := k
    have hac : a = c := by
      have e1 := e a
      have e2 := e c
      rw [memR_cons, memR_cons] at e1 e2
      rcases Int.lt_trichotomy a c with q | q | q
      · rw [CanF.below k4 (by omega), CanF.below h4 (by omega)] at e1
        rw [Bool.eq_iff_iff] at e1; simp at e1; omega
      · exact q
      · rw [CanF.below h4 (by omega), CanF.below k4 (by omega)] at e2
        rw [Bool.eq_iff_iff] at e2; simp at e2; omega
    subst hac
    have hbd : b = d := by
      rcases Int.lt_trichotomy b d with q | q | q
      · have e1 := e (b + 1)
        rw [memR_cons, memR_cons, CanF.below h4 (by omega), CanF.below k4 (by omega)] at e1
        rw [Bool.eq_iff_iff] at e1; simp at e1; omega
      · exact q
      · have e1 := e (d + 1)
        rw [memR_cons, memR_cons, CanF.below k4 (by omega), CanF.below h4 (by omega)] at e1
        rw [Bool.eq_iff_iff] at e1; simp at e1; omega
    subst hbd
    have : t = s := CanF.same h4 k4 fun p => by
      by_cases q : p < b + 2
      · rw [CanF.below h4 q, CanF.below k4 q]
      · have e1 := e p
        rw [memR_cons, memR_cons] at e1
        have d1 : decide (p ≤ b) = false := decide_eq_false (by omega)
        rw [d1] at e1
        simpa using e1
    rw [this]
/-- A set's canonical form. -/
structure IsCan (l : List Rg) (P : Int → Bool) : Prop where
  can : Can l
  mem : ∀ p, memR l p = P p
theorem IsCan.same {l m : List Rg} {P Q : Int → Bool} (h : IsCan l P) (k : IsCan m Q) (e : ∀ p, P p = Q p) : l = m :=
  CanF.same h.can k.can fun p => by rw [h.mem, k.mem, e]
theorem IsCan.inR {l : List Rg} {P : Int → Bool} (h : IsCan l P) (p : Int) : inR l p = P p := by
  unfold Proofs.YtkcpfpofimkkiaaGreatDoor.inR
  rw [h.mem]
  cases e : P p
  · simp
  · have := CanF.le h.can (by rw [h.mem]; exact e)
    simp [isPt, this]
theorem IsCan.congr {l : List Rg} {P Q : Int → Bool} (h : IsCan l P) (e : ∀ p, P p = Q p) : IsCan l Q := ⟨h.can, fun p => (h.mem p).trans (e p)⟩

/-! ### one range more behind -/
/-- What ends at or ahead of a point. -/
def EndsBy (l : List Rg) (e : Int) : Prop := ∀ r ∈ l, r.2 ≤ e
theorem CanF.snoc : ∀ {l : List Rg} {f a b : Int}, CanF f l → (∀ r ∈ l, r.2 + 2 ≤ a) → f ≤ a → a ≤ b → b ≤ MP → CanF f (l ++ [(a, b)])
  | [], f, a, b, _, _, h1, h2, h3 => ⟨h1, h2, h3, trivial⟩
  | (c, d) :: t, f, a, b, h, hl, h1, h2, h3 => ⟨h.1, h.2.1, h.2.2.1, CanF.snoc h.2.2.2 (fun r hr => hl r (List.mem_cons_of_mem _ hr)) (hl (c, d) (by simp)) h2 h3⟩
theorem CanF.last : ∀ {l : List Rg} {f a b b' : Int}, CanF f (l ++ [(a, b)]) → b ≤ b' → b' ≤ MP → CanF f (l ++ [(a, b')])
  | [], f, a, b, b', h, h1, h2 => ⟨h.1, by have := h.2.1; omega, h2, trivial⟩
  | (c, d) :: t, f, a, b, b', h, h1, h2 => ⟨h.1, h.2.1, h.2.2.1, CanF.last h.2.2.2 h1 h2⟩
theorem CanF.ends : ∀ {l : List Rg} {f a b : Int}, CanF f (l ++ [(a, b)]) → f ≤ a ∧ a ≤ b ∧ b ≤ MP ∧ ∀ r ∈ l, r.2 + 2 ≤ a
  | [], f, a, b, h => ⟨h.1, h.2.1, h.2.2.1, fun r hr => by cases hr⟩
  | (c, d) :: t, f, a, b, h => by
    obtain ⟨h1, h2, h3, h4⟩ := CanF.ends (l := t) h.2.2.2
    have := h.1; have := h.2.1
    refine ⟨by omega, h2, h3, fun r hr => ?_⟩
    rcases List.mem_cons.1 hr with rfl | q
    · exact h1
    · exact h4 r q

/-! ### Canon: ranges in order, one after the other -/
def mg (out : List Rg) (r : Rg) : List Rg :=
  match out.reverse with
  | [] => [r]
  | (a, b) :: t => if r.1 ≤ b + 1 then t.reverse ++ [(a, max b r.2)] else out ++ [r]
theorem mg_nil (r : Rg) : mg [] r = [r] := rfl
theorem mg_snoc (l : List Rg) (a b : Int) (r : Rg) : mg (l ++ [(a, b)]) r = if r.1 ≤ b + 1 then l ++ [(a, max b r.2)] else l ++ [(a, b)] ++ [r] := by
  unfold mg
  simp
def ValR (r : Rg) : Prop := 0 ≤ r.1 ∧ r.1 ≤ r.2 ∧ r.2 ≤ MP
/-- Canonical so far, no range begins later than from. -/
structure MgS (out : List Rg) (P : Int → Bool) (f : Int) : Prop where
  can : Can out
  mem : ∀ p, memR out p = P p
  lo : ∀ r ∈ out, r.1 ≤ f
theorem MgS.start : MgS [] (fun _ => false) 0 := ⟨trivial, fun _ => rfl, fun r hr => by cases hr⟩
theorem MgS.step {out : List Rg} {P : Int → Bool} {f : Int} {r : Rg} (h : MgS out P f) (hv : ValR r) (hf : f ≤ r.1) : MgS (mg out r) (fun p => P p || (decide (r.1 ≤ p) && decide (p ≤ r.2))) r.1 := by
  obtain ⟨lo, hi⟩ := r
  obtain ⟨v1, v2, v3⟩ := hv
  simp only at v1 v2 v3 hf
  rcases List.eq_nil_or_concat out with rfl | ⟨l, ⟨a, b⟩, e⟩
  · rw [mg_nil]
    exact ⟨⟨v1, v2, v3, trivial⟩, fun p => by rw [memR_cons, memR_nil, ← h.mem p, memR_nil]; simp, fun r hr => by rw [List.mem_singleton] at hr; subst hr; exact Int.le_refl _⟩
  · rw [List.concat_eq_append] at e
    subst e
    rw [mg_snoc]
    have hc := h.can
    obtain ⟨c1, c2, c3, c4⟩ := CanF.ends hc
    have hal : a ≤ f := h.lo (a, b) (by simp)
    have hm := fun p => h.mem p
    simp only
    split
    · rename_i hle
      refine ⟨CanF.last hc (by omega) (by omega), fun p => ?_, fun r hr => ?_⟩
      · rw [← h.mem p, memR_append, memR_append, memR_cons, memR_cons, memR_nil]
        cases memR l p
        · simp only [Bool.false_or, Bool.or_false]
          rw [Bool.eq_iff_iff]
          simp
          omega
        · simp
      · rcases List.mem_append.1 hr with q | q
        · have := h.lo r (List.mem_append_left _ q); omega
        · rw [List.mem_singleton] at q; subst q; simp only; omega
    · rename_i hgt
      refine ⟨CanF.snoc hc (fun r hr => ?_) (by omega) v2 v3, fun p => ?_, fun r hr => ?_⟩
      · rcases List.mem_append.1 hr with q | q
        · have := c4 r q; omega
        · rw [List.mem_singleton] at q; subst q; simp only; omega
      · rw [memR_append, h.mem p, memR_cons, memR_nil]; simp
      · rcases List.mem_append.1 hr with q | q
        · have := h.lo r q; omega
        · rw [List.mem_singleton] at q; subst q; exact Int.le_refl _
/-- What is taken in: cut to the points. -/
def clampR (r : Rg) : Rg := (max r.1 0, min r.2 MP)
def inOf (l : List Rg) : List Rg := (l.map clampR).filter fun r => decide (r.1 ≤ r.2)
theorem memR_inOf (l : List Rg) (p : Int) : memR (inOf l) p = inR l p := by
  unfold inR
  induction l with
  | nil => simp [inOf, memR]
  | cons r l ih =>
    obtain ⟨a, b⟩ := r
    have e : inOf ((a, b) :: l) = if max a 0 ≤ min b MP then (max a 0, min b MP) :: inOf l else inOf l := by
      unfold inOf
      rw [List.map_cons, List.filter_cons]
      by_cases q : max a 0 ≤ min b MP
      · rw [if_pos (by show decide (max a 0 ≤ min b MP) = true; exact decide_eq_true q), if_pos q]; rfl
      · rw [if_neg (by show ¬ decide (max a 0 ≤ min b MP) = true; rw [decide_eq_false q]; simp), if_neg q]
    rw [e, memR_cons]
    split
    · rw [memR_cons, ih]
      unfold isPt
      rw [Bool.eq_iff_iff]
      simp
      constructor
      · rintro (q | q)
        · exact ⟨⟨by omega, by omega⟩, .inl ⟨by omega, by omega⟩⟩
        · exact ⟨q.1, .inr q.2⟩
      · rintro ⟨q1, q | q⟩
        · exact .inl (by omega)
        · exact .inr ⟨q1, q⟩
    · rename_i hn
      rw [ih]
      unfold isPt
      cases memR l p
      · rw [Bool.eq_iff_iff]; simp; omega
      · simp
theorem inOf_val (l : List Rg) : ∀ r ∈ inOf l, ValR r := fun r hr => by
  unfold inOf at hr
  rw [List.mem_filter, List.mem_map] at hr
  obtain ⟨⟨q, _, rfl⟩, h⟩ := hr
  have h2 : max q.1 0 ≤ min q.2 MP := of_decide_eq_true h
  exact ⟨by show 0 ≤ max q.1 0; omega, h2, by show min q.2 MP ≤ MP; omega⟩
/-- All in order: the canonical form. -/
theorem mg_all : ∀ (l out : List Rg) (P : Int → Bool) (f : Int), MgS out P f → (∀ r ∈ l, ValR r) → (∀ r ∈ l, f ≤ r.1) → l.Pairwise (fun x y => x.1 ≤ y.1) → IsCan (l.foldl mg out) (fun p => P p || memR l p)
  | [], out, P, f, h, _, _, _ => ⟨h.can, fun p => by rw [memR_nil, Bool.or_false]; exact h.mem p⟩
  | r :: l, out, P, f, h, hv, hf, hp => by
    obtain ⟨p1, p2⟩ := List.pairwise_cons.1 hp
    have := mg_all l (mg out r) _ r.1 (h.step (hv r (by simp)) (hf r (by simp))) (fun x hx => hv x (List.mem_cons_of_mem _ hx)) p1 p2
    refine this.congr fun p => ?_
    obtain ⟨a, b⟩ := r
    rw [memR_cons, Bool.or_assoc]
theorem mem_memR {l m : List Rg} (h : ∀ r, r ∈ l ↔ r ∈ m) (p : Int) : memR l p = memR m p := by
  unfold memR
  rw [Bool.eq_iff_iff, List.any_eq_true, List.any_eq_true]
  exact ⟨fun ⟨r, a, b⟩ => ⟨r, (h r).1 a, b⟩, fun ⟨r, a, b⟩ => ⟨r, (h r).2 a, b⟩⟩
/-- Canon, however the ranges of one beginning stand. -/
theorem canon_is {l d : List Rg} (hm : ∀ r, r ∈ d ↔ r ∈ inOf l) (hp : d.Pairwise (fun x y => x.1 ≤ y.1)) : IsCan (d.foldl mg []) (inR l) :=
  (mg_all d [] _ 0 MgS.start (fun r hr => inOf_val l r ((hm r).1 hr)) (fun r hr => (inOf_val l r ((hm r).1 hr)).1) hp).congr fun p => by
    rw [Bool.false_or, mem_memR hm, memR_inOf]
end Go.Proofs.YtkcpfpofimkkiaaGreatDoor
namespace Go.Proofs.YtkcpfpofimkkiaaGreatDoor
set_option linter.unusedVariables false
set_option linter.unusedSimpArgs false

/-! ### the other points -/
def othF : Int → List Rg → List Rg
  | f, [] => if f ≤ MP then [(f, MP)] else []
  | f, (a, b) :: t => (if f < a then [(f, a - 1)] else []) ++ othF (b + 1) t
theorem othF_can : ∀ {l : List Rg} {f g : Int}, CanF g l → f ≤ g → 0 ≤ f → CanF f (othF f l)
  | [], f, g, _, h, h0 => by
    unfold othF
    split
    · exact ⟨Int.le_refl _, by assumption, Int.le_refl _, trivial⟩
    · trivial
  | (a, b) :: t, f, g, hc, h, h0 => by
    obtain ⟨h1, h2, h3, h4⟩ := hc
    have ih := othF_can (f := b + 1) h4 (by omega) (by omega)
    unfold othF
    split
    · exact ⟨Int.le_refl _, by omega, by omega, ih.mono (by omega)⟩
    · exact ih.mono (by omega)
theorem othF_mem : ∀ {l : List Rg} {f g p : Int}, CanF g l → f ≤ g → memR (othF f l) p = (decide (f ≤ p) && decide (p ≤ MP) && !memR l p)
  | [], f, g, p, _, h => by
    unfold othF
    split
    · rw [memR_cons, memR_nil]; simp
    · rw [memR_nil]
      rw [Bool.eq_iff_iff]; simp; omega
  | (a, b) :: t, f, g, p, hc, h => by
    obtain ⟨h1, h2, h3, h4⟩ := hc
    have ih := othF_mem (f := b + 1) (p := p) h4 (by omega)
    have hb : memR t p = true → b + 2 ≤ p := fun q => (CanF.le h4 q).1
    unfold othF
    rw [memR_append, ih, memR_cons]
    cases hm : memR t p
    · split
      · rw [memR_cons, memR_nil]
        rw [Bool.eq_iff_iff]; simp; omega
      · rw [memR_nil]
        rw [Bool.eq_iff_iff]; simp; omega
    · have := hb hm
      split
      · rw [memR_cons, memR_nil]
        rw [Bool.eq_iff_iff]; simp; omega
      · rw [memR_nil]
        rw [Bool.eq_iff_iff]; simp
/-- The other points of a canonical set. -/
theorem oth_is {l : List Rg} {P : Int → Bool} (h : IsCan l P) : IsCan (othF 0 l) (fun p => isPt p && !P p) :=
  ⟨othF_can h.can (Int.le_refl _) (Int.le_refl _), fun p => by rw [othF_mem h.can (Int.le_refl _), h.mem]; rfl⟩

/-! ### what lies in both -/
structure MtI (A B a b out : List Rg) : Prop where
  ca : ∃ f, CanF f a
  cb : ∃ f, CanF f b
  co : Can out
  mem : ∀ p, (memR A p && memR B p) = (memR out p || (memR a p && memR b p))
  lo : ∀ r ∈ out, (∀ p, memR a p = true → r.2 + 2 ≤ p) ∨ (∀ p, memR b p = true → r.2 + 2 ≤ p)
  pos : ∀ p, memR a p = true → 0 ≤ p
theorem MtI.start {A B : List Rg} (ha : Can A) (hb : Can B) : MtI A B A B [] :=
  ⟨⟨_, ha⟩, ⟨_, hb⟩, trivial, fun p => by rw [memR_nil, Bool.false_or], fun r hr => (by cases hr), fun p h => (CanF.le ha h).1⟩
def metOut (out : List Rg) (x y : Rg) : List Rg := if max x.1 y.1 ≤ min x.2 y.2 then out ++ [(max x.1 y.1, min x.2 y.2)] else out
theorem MtI.step {A B a b out : List Rg} {x y : Rg} (h : MtI A B (x :: a) (y :: b) out) :
    (x.2 < y.2 → MtI A B a (y :: b) (metOut out x y)) ∧ (¬ x.2 < y.2 → MtI A B (x :: a) b (metOut out x y)) := by
  obtain ⟨x1, x2⟩ := x
  obtain ⟨y1, y2⟩ := y
  obtain ⟨⟨f, ca⟩, ⟨g, cb⟩, co, mem, lo, pos⟩ := h
  obtain ⟨a1, a2, a3, a4⟩ := ca
  obtain ⟨b1, b2, b3, b4⟩ := cb
  have hta : ∀ p, memR a p = true → x2 + 2 ≤ p := fun p q => (CanF.le a4 q).1
  have htb : ∀ p, memR b p = true → y2 + 2 ≤ p := fun p q => (CanF.le b4 q).1
  have hx0 : 0 ≤ x1 := pos x1 (by rw [memR_cons]; simp; exact .inl a2)
  have hlo : ∀ r ∈ out, max x1 y1 ≤ min x2 y2 → r.2 + 2 ≤ max x1 y1 := fun r hr q => by
    rcases lo r hr with k | k
    · have := k (max x1 y1) (by rw [memR_cons]; simp; exact .inl (by omega)); exact this
    · have := k (max x1 y1) (by rw [memR_cons]; simp; exact .inl (by omega)); exact this
  have hco : Can (metOut out (x1, x2) (y1, y2)) := by
    unfold metOut
    split
    · rename_i q
      exact CanF.snoc co (fun r hr => hlo r hr q) (by simp only; omega) q (by simp only; omega)
    · exact co
  have hout : ∀ p, memR (metOut out (x1, x2) (y1, y2)) p = (memR out p || (decide (x1 ≤ p) && decide (p ≤ x2) && (decide (y1 ≤ p) && decide (p ≤ y2)))) := fun p => by
    unfold metOut
    simp only
    split
    · rw [memR_append, memR_cons, memR_nil]
      cases memR out p
      · rw [Bool.eq_iff_iff]; simp; omega
      · simp
    · rename_i q
      cases memR out p
      · rw [Bool.eq_iff_iff]; simp; omega
      · simp
  constructor
  · intro hlt
    simp only at hlt
    refine ⟨⟨_, a4⟩, ⟨g, b1, b2, b3, b4⟩, hco, fun p => ?_, fun r hr => ?_, fun p q => pos p (by rw [memR_cons, q]; simp)⟩
    · rw [mem p, hout p, memR_cons, memR_cons]
      cases hm : memR out p
      · cases ha : memR a p
        · cases hb : memR b p
          · simp
          · have := htb p hb
            rw [Bool.eq_iff_iff]; simp; omega
        · have := hta p ha
          rw [Bool.eq_iff_iff]; simp; omega
      · simp
    · have old : r ∈ out → ((∀ p, memR a p = true → r.2 + 2 ≤ p) ∨ (∀ p, memR ((y1, y2) :: b) p = true → r.2 + 2 ≤ p)) := fun k => (lo r k).imp (fun z p q => z p (by rw [memR_cons, q]; simp)) (fun z => z)
      unfold metOut at hr
      simp only at hr
      split at hr
      · rcases List.mem_append.1 hr with k | k
        · exact old k
        · rw [List.mem_singleton] at k; subst k
          exact .inl fun p q => by have := hta p q; simp only; omega
      · exact old hr
  · intro hge
    simp only at hge
    refine ⟨⟨f, a1, a2, a3, a4⟩, ⟨_, b4⟩, hco, fun p => ?_, fun r hr => ?_, pos⟩
    · rw [mem p, hout p, memR_cons, memR_cons]
      cases hm : memR out p
      · cases ha : memR a p
        · cases hb : memR b p
          · simp
          · have := htb p hb
            rw [Bool.eq_iff_iff]; simp; intros; omega
        · cases hb : memR b p
          · have := hta p ha
            rw [Bool.eq_iff_iff]; simp; omega
          · simp
      · simp
    · have old : r ∈ out → ((∀ p, memR ((x1, x2) :: a) p = true → r.2 + 2 ≤ p) ∨ (∀ p, memR b p = true → r.2 + 2 ≤ p)) := fun k => (lo r k).imp (fun z => z) (fun z p q => z p (by rw [memR_cons, q]; simp))
      unfold metOut at hr
      simp only at hr
      split at hr
      · rcases List.mem_append.1 hr with k | k
        · exact old k
        · rw [List.mem_singleton] at k; subst k
          exact .inr fun p q => by have := htb p q; simp only; omega
      · exact old hr
theorem MtI.done {A B a b out : List Rg} {P Q : Int → Bool} (h : MtI A B a b out) (he : a = [] ∨ b = []) (hA : IsCan A P) (hB : IsCan B Q) : IsCan out (fun p => P p && Q p) :=
  ⟨h.co, fun p => by
    have := h.mem p
    rw [hA.mem, hB.mem] at this
    rw [this]
    rcases he with rfl | rfl <;> simp [memR_nil]⟩

/-! ### edges -/
/-- A number put into a list that ascends. -/
def ins (n : Int) : List Int → List Int
  | [] => [n]
  | x :: l => if x < n then x :: ins n l else if x = n then x :: l else n :: x :: l
def Asc (l : List Int) : Prop := l.Pairwise (· < ·)
theorem mem_ins {n x : Int} : ∀ {l : List Int}, x ∈ ins n l ↔ x ∈ l ∨ x = n
  | [] => by simp [ins]
  | y :: l => by
    unfold ins
    split
    · rw [List.mem_cons, mem_ins (l := l), List.mem_cons]; constructor
      · rintro (h | h | h)
        · exact .inl (.inl h)
        · exact .inl (.inr h)
        · exact .inr h
      · rintro ((h | h) | h)
        · exact .inl h
        · exact .inr (.inl h)
        · exact .inr (.inr h)
    · split
      · rename_i h; subst h
        rw [List.mem_cons]
        constructor
        · exact .inl
        · rintro (h | h)
          · exact h
          · exact .inl h
      · rw [List.mem_cons]; constructor
        · rintro (h | h)
          · exact .inr h
          · exact .inl h
        · rintro (h | h)
          · exact .inr h
          · exact .inl h
theorem asc_ins {n : Int} : ∀ {l : List Int}, Asc l → Asc (ins n l)
  | [], _ => by simp [ins, Asc]
  | y :: l, h => by
    obtain ⟨h1, h2⟩ := List.pairwise_cons.1 h
    unfold ins
    split
    · refine List.pairwise_cons.2 ⟨fun z hz => ?_, asc_ins h2⟩
      rcases mem_ins.1 hz with q | q
      · exact h1 z q
      · omega
    · split
      · exact h
      · refine List.pairwise_cons.2 ⟨fun z hz => ?_, h⟩
        rcases List.mem_cons.1 hz with q | q
        · omega
        · have := h1 z q; omega
/-- Where the walk finds the place: k numbers are less. -/
theorem ins_at {n : Int} : ∀ {l : List Int} {k : Nat}, k ≤ l.length → (∀ j, j < k → ∀ h : j < l.length, l[j] < n) → (∀ h : k < l.length, ¬ l[k] < n) → ins n l = if l[k]? = some n then l else l.take k ++ n :: l.drop k
  | [], k, hk, _, _ => by
    obtain rfl : k = 0 := by simpa using hk
    simp [ins]
  | y :: l, 0, _, _, h => by
    have := h (by simp)
    simp only [List.getElem_cons_zero] at this
    unfold ins
    rw [if_neg this]
    simp only [List.getElem?_cons_zero, Option.some.injEq, List.take_zero, List.nil_append, List.drop_zero]
  | y :: l, k + 1, hk, h1, h2 => by
    have h0 := h1 0 (by omega) (by simp)
    simp only [List.getElem_cons_zero] at h0
    have ih := ins_at (n := n) (l := l) (k := k) (by simpa using hk) (fun j hj h => by have := h1 (j + 1) (by omega) (by simpa using h); simpa using this) (fun h => by have := h2 (by simpa using h); simpa using this)
    unfold ins
    rw [if_pos h0, ih, List.getElem?_cons_succ]
    split
    · rfl
    · rfl
def edgR (e : List Int) (r : Rg) : List Int :=
  let e1 := if 0 < r.1 ∧ r.1 ≤ MP then ins r.1 e else e
  if 0 ≤ r.2 ∧ r.2 < MP then ins (r.2 + 1) e1 else e1
def edg (e : List Int) (s : List Rg) : List Int := s.foldl edgR e
/-- Edges: they ascend, from 0 to the one behind the last point. -/
structure EdgO (e : List Int) : Prop where
  asc : Asc e
  bd : ∀ x ∈ e, 0 ≤ x ∧ x ≤ MP + 1
  z : (0 : Int) ∈ e
  t : MP + 1 ∈ e
def EdgB (e : List Int) (r : Rg) : Prop := (0 < r.1 → r.1 ≤ MP → r.1 ∈ e) ∧ (0 ≤ r.2 → r.2 < MP → r.2 + 1 ∈ e)
theorem edg0 : EdgO [0, MP + 1] := ⟨by simp [Asc, MP], fun x hx => by simp at hx; rcases hx with rfl | rfl <;> simp [MP], by simp, by simp⟩
theorem edgR_ok {e : List Int} (r : Rg) (h : EdgO e) : EdgO (edgR e r) ∧ EdgB (edgR e r) r ∧ (∀ x ∈ e, x ∈ edgR e r) := by
  have h1 : EdgO (if 0 < r.1 ∧ r.1 ≤ MP then ins r.1 e else e) := by
    split
    · exact ⟨asc_ins h.asc, fun x hx => (mem_ins.1 hx).elim (h.bd x) (fun q => by omega), mem_ins.2 (.inl h.z), mem_ins.2 (.inl h.t)⟩
    · exact h
  have h2 : (0 < r.1 → r.1 ≤ MP → r.1 ∈ (if 0 < r.1 ∧ r.1 ≤ MP then ins r.1 e else e)) ∧ ∀ x ∈ e, x ∈ (if 0 < r.1 ∧ r.1 ≤ MP then ins r.1 e else e) := by
    split
    · exact ⟨fun _ _ => mem_ins.2 (.inr rfl), fun x hx => mem_ins.2 (.inl hx)⟩
    · rename_i q; exact ⟨fun q1 q2 => absurd ⟨q1, q2⟩ q, fun x hx => hx⟩
  unfold edgR
  simp only
  split
  · rename_i q
    exact ⟨⟨asc_ins h1.asc, fun x hx => (mem_ins.1 hx).elim (h1.bd x) (fun q2 => by omega), mem_ins.2 (.inl h1.z), mem_ins.2 (.inl h1.t)⟩, ⟨fun q1 q2 => mem_ins.2 (.inl (h2.1 q1 q2)), fun _ _ => mem_ins.2 (.inr rfl)⟩, fun x hx => mem_ins.2 (.inl (h2.2 x hx))⟩
  · rename_i q
    exact ⟨h1, ⟨h2.1, fun q1 q2 => absurd ⟨q1, q2⟩ q⟩, h2.2⟩
theorem edg_ok : ∀ (s : List Rg) {e : List Int}, EdgO e → EdgO (edg e s) ∧ (∀ r ∈ s, EdgB (edg e s) r) ∧ (∀ x ∈ e, x ∈ edg e s)
  | [], e, h => ⟨h, fun r hr => (by cases hr), fun x hx => hx⟩
  | r :: s, e, h => by
    obtain ⟨a1, a2, a3⟩ := edgR_ok r h
    obtain ⟨b1, b2, b3⟩ := edg_ok s a1
    refine ⟨b1, fun q hq => ?_, fun x hx => b3 x (a3 x hx)⟩
    rcases List.mem_cons.1 hq with rfl | k
    · exact ⟨fun q1 q2 => b3 _ (a2.1 q1 q2), fun q1 q2 => b3 _ (a2.2 q1 q2)⟩
    · exact b2 q k
theorem EdgB.more {e e' : List Int} {r : Rg} (h : EdgB e r) (hs : ∀ x ∈ e, x ∈ e') : EdgB e' r := ⟨fun a b => hs _ (h.1 a b), fun a b => hs _ (h.2 a b)⟩
/-- Between two edges nothing changes. -/
theorem edg_const {e : List Int} {s : List Rg} (he : EdgO e) (hb : ∀ r ∈ s, EdgB e r) {i : Nat} (hi : i + 1 < e.length) {p : Int} (h1 : e[i] ≤ p) (h2 : p < e[i + 1]) : inR s p = inR s e[i] := by
  have hx := he.bd _ (List.getElem_mem (show i < e.length by omega))
  have hy := he.bd _ (List.getElem_mem hi)
  have hno : ∀ x ∈ e, ¬ (e[i] < x ∧ x < e[i + 1]) := fun x hx q => by
    obtain ⟨j, hj, rfl⟩ := List.getElem_of_mem hx
    have ha := he.asc
    unfold Asc at ha
    rw [List.pairwise_iff_getElem] at ha
    rcases Nat.lt_trichotomy j (i + 1) with q2 | q2 | q2
    · rcases Nat.lt_or_ge j i with q3 | q3
      · have := ha j i hj (by omega) q3; omega
      · obtain rfl : j = i := by omega
        omega
    · subst q2; omega
    · have := ha (i + 1) j hi hj q2; omega
  unfold inR
  have e1 : isPt p = true := by simp [isPt]; omega
  have e2 : isPt e[i] = true := by simp [isPt]; omega
  rw [e1, e2, Bool.true_and, Bool.true_and]
  unfold memR
  rw [Bool.eq_iff_iff, List.any_eq_true, List.any_eq_true]
  constructor
  · rintro ⟨r, hr, q⟩
    simp only [Bool.and_eq_true, decide_eq_true_eq] at q
    refine ⟨r, hr, ?_⟩
    simp only [Bool.and_eq_true, decide_eq_true_eq]
    refine ⟨?_, by omega⟩
    apply Classical.byContradiction
    intro k
    exact hno r.1 ((hb r hr).1 (by omega) (by omega)) ⟨by omega, by omega⟩
  · rintro ⟨r, hr, q⟩
    simp only [Bool.and_eq_true, decide_eq_true_eq] at q
    refine ⟨r, hr, ?_⟩
    simp only [Bool.and_eq_true, decide_eq_true_eq]
    refine ⟨by omega, ?_⟩
    apply Classical.byContradiction
    intro k
    exact hno (r.2 + 1) ((hb r hr).2 (by omega) (by omega)) ⟨by omega, by omega⟩

/-! ### sets made one -/
/-- A stretch more behind. -/
def growR (out : List Rg) (lo hi : Int) : List Rg :=
  match out.reverse with
  | [] => [(lo, hi)]
  | (a, b) :: t => if b + 1 = lo then t.reverse ++ [(a, hi)] else out ++ [(lo, hi)]
theorem growR_nil (lo hi : Int) : growR [] lo hi = [(lo, hi)] := rfl
theorem growR_snoc (l : List Rg) (a b lo hi : Int) : growR (l ++ [(a, b)]) lo hi = if b + 1 = lo then l ++ [(a, hi)] else l ++ [(a, b)] ++ [(lo, hi)] := by
  unfold growR
  simp
/-- Made so far: all points ahead of f. -/
structure GwS (out : List Rg) (P : Int → Bool) (f : Int) : Prop where
  can : Can out
  mem : ∀ p, memR out p = (decide (p < f) && P p)
  hi : ∀ r ∈ out, r.2 < f
theorem GwS.start {P : Int → Bool} (h : ∀ p, p < 0 → P p = false) : GwS [] P 0 := ⟨trivial, fun p => by
  rw [memR_nil]
  by_cases q : p < 0
  · rw [h p q]; simp
  · simp [q], fun r hr => by cases hr⟩
theorem GwS.yes {out : List Rg} {P : Int → Bool} {f g : Int} (h : GwS out P f) (hfg : f < g) (h0 : 0 ≤ f) (hg : g ≤ MP + 1) (hP : ∀ p, f ≤ p → p < g → P p = true) : GwS (growR out f (g - 1)) P g := by
  have hm : ∀ p, (decide (p < g) && P p) = ((decide (p < f) && P p) || (decide (f ≤ p) && decide (p ≤ g - 1))) := fun p => by
    by_cases q : f ≤ p ∧ p < g
    · rw [hP p q.1 q.2]
      rw [Bool.eq_iff_iff]; simp; omega
    · cases P p
      · rw [Bool.eq_iff_iff]; simp; omega
      · rw [Bool.eq_iff_iff]; simp; omega
  rcases List.eq_nil_or_concat out with rfl | ⟨l, ⟨a, b⟩, e⟩
  · rw [growR_nil]
    refine ⟨⟨h0, by omega, by omega, trivial⟩, fun p => ?_, fun r hr => by rw [List.mem_singleton] at hr; subst hr; simp only; omega⟩
    rw [hm p, ← h.mem p, memR_nil, memR_cons, memR_nil]; simp
  · rw [List.concat_eq_append] at e
    subst e
    rw [growR_snoc]
    obtain ⟨c1, c2, c3, c4⟩ := CanF.ends h.can
    have hbf := h.hi (a, b) (by simp)
    simp only at hbf
    split
    · rename_i hb
      refine ⟨CanF.last h.can (by omega) (by omega), fun p => ?_, fun r hr => ?_⟩
      · rw [hm p, ← h.mem p, memR_append, memR_append, memR_cons, memR_cons, memR_nil]
        cases memR l p
        · rw [Bool.eq_iff_iff]; simp; omega
        · simp
      · rcases List.mem_append.1 hr with q | q
        · have := h.hi r (List.mem_append_left _ q); omega
        · rw [List.mem_singleton] at q; subst q; simp only; omega
    · rename_i hb
      refine ⟨CanF.snoc h.can (fun r hr => ?_) h0 (by omega) (by omega), fun p => ?_, fun r hr => ?_⟩
      · rcases List.mem_append.1 hr with q | q
        · have := c4 r q; omega
        · rw [List.mem_singleton] at q; subst q; simp only; omega
      · rw [hm p, ← h.mem p, memR_append (l := l ++ [(a, b)]), memR_cons, memR_nil]; simp
      · rcases List.mem_append.1 hr with q | q
        · have := h.hi r q; omega
        · rw [List.mem_singleton] at q; subst q; simp only; omega
theorem GwS.no {out : List Rg} {P : Int → Bool} {f g : Int} (h : GwS out P f) (hfg : f < g) (hP : ∀ p, f ≤ p → p < g → P p = false) : GwS out P g :=
  ⟨h.can, fun p => by
    rw [h.mem p]
    by_cases q : f ≤ p ∧ p < g
    · rw [hP p q.1 q.2]; simp
    · rw [show decide (p < g) = decide (p < f) by rw [decide_eq_decide]; omega], fun r hr => by have := h.hi r hr; omega⟩
theorem GwS.done {out : List Rg} {P : Int → Bool} (h : GwS out P (MP + 1)) (hP : ∀ p, MP < p → P p = false) : IsCan out P :=
  ⟨h.can, fun p => by
    rw [h.mem p]
    by_cases q : p < MP + 1
    · simp [q]
    · rw [hP p (by omega)]; simp⟩
def wantB (how : Int) (x y : Bool) : Bool := if how = 1 then x || y else if how = 2 then x && y else x && !y
theorem wantB_no {how : Int} : wantB how false false = false := by
  unfold wantB
  split
  · rfl
  · split <;> rfl
end Go.Proofs.YtkcpfpofimkkiaaGreatDoor
