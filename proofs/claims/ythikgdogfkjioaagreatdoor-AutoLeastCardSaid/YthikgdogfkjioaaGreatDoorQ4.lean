/- Plain: the other points; what lies in both; edges, and sets made one by them. No program here. · Plain: classes of points under sets. No program here. -/
import Derived.Test.YthikgdogfkjioaaGreatDoorQ3
namespace Go.Proofs.YthikgdogfkjioaaGreatDoor
set_option linter.unusedVariables false
set_option linter.unusedSimpArgs false

/-! ### the other points -/
def othF : Int → List Rg → List Rg
  | f, [] => if f ≤ MP then [(f, MP)] else []
  | f, (a, b) :: t => (if f < a then [(f, a - 1)] else []) ++ othF (b + 1) t
theorem othF_can : ∀ {l : List Rg} {f g : Int}, CanF g l → f ≤ g → 0 ≤ f → CanF f (othF f l)
  | [], f, g, _, h, h0 => by
    unfold othF
    split
    · exact ⟨Int.le_refl _, by assumption, Int.le_refl _, trivial⟩
    · trivial
  | (a, b) :: t, f, g, hc, h, h0 => by
    obtain ⟨h1, h2, h3, h4⟩ := hc
    have ih := othF_can (f := b + 1) h4 (by omega) (by omega)
    unfold othF
    split
    · exact ⟨Int.le_refl _, by omega, by omega, ih.mono (by omega)⟩
    · exact ih.mono (by omega)
theorem othF_mem : ∀ {l : List Rg} {f g p : Int}, CanF g l → f ≤ g → memR (othF f l) p = (decide (f ≤ p) && decide (p ≤ MP) && !memR l p)
  | [], f, g, p, _, h => by
    unfold othF
    split
    · rw [memR_cons, memR_nil]; simp
    · rw [memR_nil]
      rw [Bool.eq_iff_iff]; simp; omega
  | (a, b) :: t, f, g, p, hc, h => by
    obtain ⟨h1, h2, h3, h4⟩ := hc
    have ih := othF_mem (f := b + 1) (p := p) h4 (by omega)
    have hb : memR t p = true → b + 2 ≤ p := fun q => (CanF.le h4 q).1
    unfold othF
    rw [memR_append, ih, memR_cons]
    cases hm : memR t p
    · split
      · rw [memR_cons, memR_nil]
        rw [Bool.eq_iff_iff]; simp; omega
      · rw [memR_nil]
        rw [Bool.eq_iff_iff]; simp; omega
    · have := hb hm
      split
      · rw [memR_cons, memR_nil]
        rw [Bool.eq_iff_iff]; simp; omega
      · rw [memR_nil]
        rw [Bool.eq_iff_iff]; simp
/-- The other points of a canonical set. -/
theorem oth_is {l : List Rg} {P : Int → Bool} (h : IsCan l P) : IsCan (othF 0 l) (fun p => isPt p && !P p) :=
  ⟨othF_can h.can (Int.le_refl _) (Int.le_refl _), fun p => by rw [othF_mem h.can (Int.le_refl _), h.mem]; rfl⟩

/-! ### what lies in both -/
structure MtI (A B a b out : List Rg) : Prop where
  ca : ∃ f, CanF f a
  cb : ∃ f, CanF f b
  co : Can out
  mem : ∀ p, (memR A p && memR B p) = (memR out p || (memR a p && memR b p))
  lo : ∀ r ∈ out, (∀ p, memR a p = true → r.2 + 2 ≤ p) ∨ (∀ p, memR b p = true → r.2 + 2 ≤ p)
  pos : ∀ p, memR a p = true → 0 ≤ p
theorem MtI.start {A B : List Rg} (ha : Can A) (hb : Can B) : MtI A B A B [] :=
  ⟨⟨_, ha⟩, ⟨_, hb⟩, trivial, fun p => by rw [memR_nil, Bool.false_or], fun r hr => (by cases hr), fun p h => (CanF.le ha h).1⟩
def metOut (out : List Rg) (x y : Rg) : List Rg := if max x.1 y.1 ≤ min x.2 y.2 then out ++ [(max x.1 y.1, min x.2 y.2)] else out
theorem MtI.step {A B a b out : List Rg} {x y : Rg} (h : MtI A B (x :: a) (y :: b) out) :
    (x.2 < y.2 → MtI A B a (y :: b) (metOut out x y)) ∧ (¬ x.2 < y.2 → MtI A B (x :: a) b (metOut out x y)) := by
  obtain ⟨x1, x2⟩ := x
  obtain ⟨y1, y2⟩ := y
  obtain ⟨⟨f, ca⟩, ⟨g, cb⟩, co, mem, lo, pos⟩ := h
  obtain ⟨a1, a2, a3, a4⟩ := ca
  obtain ⟨b1, b2, b3, b4⟩ := cb
  have hta : ∀ p, memR a p = true → x2 + 2 ≤ p := fun p q => (CanF.le a4 q).1
  have htb : ∀ p, memR b p = true → y2 + 2 ≤ p := fun p q => (CanF.le b4 q).1
  have hx0 : 0 ≤ x1 := pos x1 (by rw [memR_cons]; simp; exact .inl a2)
  have hlo : ∀ r ∈ out, max x1 y1 ≤ min x2 y2 → r.2 + 2 ≤ max x1 y1 := fun r hr q => by
    rcases lo r hr with k | k
    · have := k (max x1 y1) (by rw [memR_cons]; simp; exact .inl (by omega)); exact this
    · have := k (max x1 y1) (by rw [memR_cons]; simp; exact .inl (by omega)); exact this
  have hco : Can (metOut out (x1, x2) (y1, y2)) := by
    unfold metOut
    split
    · rename_i q
      exact CanF.snoc co (fun r hr => hlo r hr q) (by simp only; omega) q (by simp only; omega)
    · exact co
  have hout : ∀ p, memR (metOut out (x1, x2) (y1, y2)) p = (memR out p || (decide (x1 ≤ p) && decide (p ≤ x2) && (decide (y1 ≤ p) && decide (p ≤ y2)))) := fun p => by
    unfold metOut
    simp only
    split
    · rw [memR_append, memR_cons, memR_nil]
      cases memR out p
      · rw [Bool.eq_iff_iff]; simp; omega
      · simp
    · rename_i q
      cases memR out p
      · rw [Bool.eq_iff_iff]; simp; omega
      · simp
  constructor
  · intro hlt
    simp only at hlt
    refine ⟨⟨_, a4⟩, ⟨g, b1, b2, b3, b4⟩, hco, fun p => ?_, fun r hr => ?_, fun p q => pos p (by rw [memR_cons, q]; simp)⟩
    · rw [mem p, hout p, memR_cons, memR_cons]
      cases hm : memR out p
      · cases ha : memR a p
        · cases hb : memR b p
          · simp
          · have := htb p hb
            rw [Bool.eq_iff_iff]; simp; omega
        · have := hta p ha
          rw [Bool.eq_iff_iff]; simp; omega
      · simp
    · have old : r ∈ out → ((∀ p, memR a p = true → r.2 + 2 ≤ p) ∨ (∀ p, memR ((y1, y2) :: b) p = true → r.2 + 2 ≤ p)) := fun k => (lo r k).imp (fun z p q => z p (by rw [memR_cons, q]; simp)) (fun z => z)
      unfold metOut at hr
      simp only at hr
      split at hr
      · rcases List.mem_append.1 hr with k | k
        · exact old k
        · rw [List.mem_singleton] at k; subst k
          exact .inl fun p q => by have := hta p q; simp only; omega
      · exact old hr
  · intro hge
    simp only at hge
    refine ⟨⟨f, a1, a2, a3, a4⟩, ⟨_, b4⟩, hco, fun p => ?_, fun r hr => ?_, pos⟩
    · rw [mem p, hout p, memR_cons, memR_cons]
      cases hm : memR out p
      · cases ha : memR a p
        · cases hb : memR b p
          · simp
          · have := htb p hb
            rw [Bool.eq_iff_iff]; simp; intros; omega
        · cases hb : memR b p
          · have := hta p ha
            rw [Bool.eq_iff_iff]; simp; omega
          · simp
      · simp
    · have old : r ∈ out → ((∀ p, memR ((x1, x2) :: a) p = true → r.2 + 2 ≤ p) ∨ (∀ p, memR b p = true → r.2 + 2 ≤ p)) := fun k => (lo r k).imp (fun z => z) (fun z p q => z p (by rw [memR_cons, q]; simp))
      unfold metOut at hr
      simp only at hr
      split at hr
      · rcases List.mem_append.1 hr with k | k
        · exact old k
        · rw [List.mem_singleton] at k; subst k
          exact .inr fun p q => by have := htb p q; simp only; omega
      · exact old hr
theorem MtI.done {A B a b out : List Rg} {P Q : Int → Bool} (h : MtI A B a b out) (he : a = [] ∨ b = []) (hA : IsCan A P) (hB : IsCan B Q) : IsCan out (fun p => P p && Q p) :=
  ⟨h.co, fun p => by
    have := h.mem p
    rw [hA.mem, hB.mem] at this
    rw [this]
    rcases he with rfl | rfl <;> simp [memR_nil]⟩

/-! ### edges -/
/-- A number put into a list that ascends. -/
def ins (n : Int) : List Int → List Int
  | [] => [n]
  | x :: l => if x < n then x :: ins n l else if x = n then x :: l else n :: x :: l
def Asc (l : List Int) : Prop := l.Pairwise (· < ·)
theorem mem_ins {n x : Int} : ∀ {l : List Int}, x ∈ ins n l ↔ x ∈ l ∨ x = n
  | [] => by simp [ins]
  | y :: l => by
    unfold ins
    split
    · rw [List.mem_cons, mem_ins (l := l), List.mem_cons]; constructor
      · rintro (h | h | h)
        · exact .inl (.inl h)
        · exact .inl (.inr h)
        · exact .inr h
      · rintro ((h | h) | h)
        · exact .inl h
        · exact .inr (.inl h)
        · exact .inr (.inr h)
    · split
      · rename_i h; subst h
        rw [List.mem_cons]
        constructor
        · exact .inl
        · rintro (h | h)
          · exact h
          · exact .inl h
      · rw [List.mem_cons]; constructor
        · rintro (h | h)
          · exact .inr h
          · exact .inl h
        · rintro (h | h)
          · exact .inr h
          · exact .inl h
theorem asc_ins {n : Int} : ∀ {l : List Int}, Asc l → Asc (ins n l)
  | [], _ => by simp [ins, Asc]
  | y :: l, h => by
    obtain ⟨h1, h2⟩ := List.pairwise_cons.1 h
    unfold ins
    split
    · refine List.pairwise_cons.2 ⟨fun z hz => ?_, asc_ins h2⟩
      rcases mem_ins.1 hz with q | q
      · exact h1 z q
      · omega
    · split
      · exact h
      · refine List.pairwise_cons.2 ⟨fun z hz => ?_, h⟩
        rcases List.mem_cons.1 hz with q | q
        · omega
        · have := h1 z q; omega
/-- Where the walk finds the place: k numbers are less. -/
theorem ins_at {n : Int} : ∀ {l : List Int} {k : Nat}, k ≤ l.length → (∀ j, j < k → ∀ h : j < l.length, l[j] < n) → (∀ h : k < l.length, ¬ l[k] < n) → ins n l = if l[k]? = some n then l else l.take k ++ n :: l.drop k
  | [], k, hk, _, _ => by
    obtain rfl : k = 0 := by simpa using hk
    simp [ins]
  | y :: l, 0, _, _, h => by
    have := h (by simp)
    simp only [List.getElem_cons_zero] at this
    unfold ins
    rw [if_neg this]
    simp only [List.getElem?_cons_zero, Option.some.injEq, List.take_zero, List.nil_append, List.drop_zero]
  | y :: l, k + 1, hk, h1, h2 => by
    have h0 := h1 0 (by omega) (by simp)
    simp only [List.getElem_cons_zero] at h0
    have ih := ins_at (n := n) (l := l) (k := k) (by simpa using hk) (fun j hj h => by have := h1 (j + 1) (by omega) (by simpa using h); simpa using this) (fun h => by have := h2 (by simpa using h); simpa using this)
    unfold ins
    rw [if_pos h0, ih, List.getElem?_cons_succ]
    split
    · rfl
    · rfl
def edgR (e : List Int) (r : Rg) : List Int :=
  let e1 := if 0 < r.1 ∧ r.1 ≤ MP then ins r.1 e else e
  if 0 ≤ r.2 ∧ r.2 < MP then ins (r.2 + 1) e1 else e1
def edg (e : List Int) (s : List Rg) : List Int := s.foldl edgR e
/-- Edges: they ascend, from 0 to the one behind the last point. -/
structure EdgO (e : List Int) : Prop where
  asc : Asc e
  bd : ∀ x ∈ e, 0 ≤ x ∧ x ≤ MP + 1
  z : (0 : Int) ∈ e
  t : MP + 1 ∈ e
def EdgB (e : List Int) (r : Rg) : Prop := (0 < r.1 → r.1 ≤ MP → r.1 ∈ e) ∧ (0 ≤ r.2 → r.2 < MP → r.2 + 1 ∈ e)
theorem edg0 : EdgO [0, MP + 1] := ⟨by simp [Asc, MP], fun x hx => by simp at hx; rcases hx with rfl | rfl <;> simp [MP], by simp, by simp⟩
theorem edgR_ok {e : List Int} (r : Rg) (h : EdgO e) : EdgO (edgR e r) ∧ EdgB (edgR e r) r ∧ (∀ x ∈ e, x ∈ edgR e r) := by
  have h1 : EdgO (if 0 < r.1 ∧ r.1 ≤ MP then ins r.1 e else e) := by
    split
    · exact ⟨asc_ins h.asc, fun x hx => (mem_ins.1 hx).elim (h.bd x) (fun q => by omega), mem_ins.2 (.inl h.z), mem_ins.2 (.inl h.t)⟩
    · exact h
  have h2 : (0 < r.1 → r.1 ≤ MP → r.1 ∈ (if 0 < r.1 ∧ r.1 ≤ MP then ins r.1 e else e)) ∧ ∀ x ∈ e, x ∈ (if 0 < r.1 ∧ r.1 ≤ MP then ins r.1 e else e) := by
    split
    · exact ⟨fun _ _ => mem_ins.2 (.inr rfl), fun x hx => mem_ins.2 (.inl hx)⟩
    · rename_i q; exact ⟨fun q1 q2 => absurd ⟨q1, q2⟩ q, fun x hx => hx⟩
  unfold edgR
  simp only
  split
  · rename_i q
    exact ⟨⟨asc_ins h1.asc, fun x hx => (mem_ins.1 hx).elim (h1.bd x) (fun q2 => by omega), mem_ins.2 (.inl h1.z), mem_ins.2 (.inl h1.t)⟩, ⟨fun q1 q2 => mem_ins.2 (.inl (h2.1 q1 q2)), fun _ _ => mem_ins.2 (.inr rfl)⟩, fun x hx => mem_ins.2 (.inl (h2.2 x hx))⟩
  · rename_i q
    exact ⟨h1, ⟨h2.1, fun q1 q2 => absurd ⟨q1, q2⟩ q⟩, h2.2⟩
theorem edg_ok : ∀ (s : List Rg) {e : List Int}, EdgO e → EdgO (edg e s) ∧ (∀ r ∈ s, EdgB (edg e s) r) ∧ (∀ x ∈ e, x ∈ edg e s)
  | [], e, h => ⟨h, fun r hr => (by cases hr), fun x hx => hx⟩
  | r :: s, e, h => by
    obtain ⟨a1, a2, a3⟩ := edgR_ok r h
    obtain ⟨b1, b2, b3⟩ := edg_ok s a1
    refine ⟨b1, fun q hq => ?_, fun x hx => b3 x (a3 x hx)⟩
    rcases List.mem_cons.1 hq with rfl | k
    · exact ⟨fun q1 q2 => b3 _ (a2.1 q1 q2), fun q1 q2 => b3 _ (a2.2 q1 q2)⟩
    · exact b2 q k
theorem EdgB.more {e e' : List Int} {r : Rg} (h : EdgB e r) (hs : ∀ x ∈ e, x ∈ e') : EdgB e' r := ⟨fun a b => hs _ (h.1 a b), fun a b => hs _ (h.2 a b)⟩
/-- Between two edges nothing changes. -/
theorem edg_const {e : List Int} {s : List Rg} (he : EdgO e) (hb : ∀ r ∈ s, EdgB e r) {i : Nat} (hi : i + 1 < e.length) {p : Int} (h1 : e[i] ≤ p) (h2 : p < e[i + 1]) : inR s p = inR s e[i] := by
  have hx := he.bd _ (List.getElem_mem (show i < e.length by omega))
  have hy := he.bd _ (List.getElem_mem hi)
  have hno : ∀ x ∈ e, ¬ (e[i] < x ∧ x < e[i + 1]) := fun x hx q => by
    obtain ⟨j, hj, rfl⟩ := List.getElem_of_mem hx
    have ha := he.asc
    unfold Asc at ha
    rw [List.pairwise_iff_getElem] at ha
    rcases Nat.lt_trichotomy j (i + 1) with q2 | q2 | q2
    · rcases Nat.lt_or_ge j i with q3 | q3
      · have := ha j i hj (by omega) q3; omega
      · obtain rfl : j = i := by omega
        omega
    · subst q2; omega
    · have := ha (i + 1) j hi hj q2; omega
  unfold inR
  have e1 : isPt p = true := by simp [isPt]; omega
  have e2 : isPt e[i] = true := by simp [isPt]; omega
  rw [e1, e2, Bool.true_and, Bool.true_and]
  unfold memR
  rw [Bool.eq_iff_iff, List.any_eq_true, List.any_eq_true]
  constructor
  · rintro ⟨r, hr, q⟩
    simp only [Bool.and_eq_true, decide_eq_true_eq] at q
    refine ⟨r, hr, ?_⟩
    simp only [Bool.and_eq_true, decide_eq_true_eq]
    refine ⟨?_, by omega⟩
    apply Classical.byContradiction
    intro k
    exact hno r.1 ((hb r hr).1 (by omega) (by omega)) ⟨by omega, by omega⟩
  · rintro ⟨r, hr, q⟩
    simp only [Bool.and_eq_true, decide_eq_true_eq] at q
    refine ⟨r, hr, ?_⟩
    simp only [Bool.and_eq_true, decide_eq_true_eq]
    refine ⟨by omega, ?_⟩
    apply Classical.byContradiction
    intro k
    exact hno (r.2 + 1) ((hb r hr).2 (by omega) (by omega)) ⟨by omega, by omega⟩

/-! ### sets made one -/
/-- A stretch more behind. -/
def growR (out : List Rg) (lo hi : Int) : List Rg :=
  match out.reverse with
  | [] => [(lo, hi)]
  | (a, b) :: t => if b + 1 = lo then t.reverse ++ [(a, hi)] else out ++ [(lo, hi)]
theorem growR_nil (lo hi : Int) : growR [] lo hi = [(lo, hi)] := rfl
theorem growR_snoc (l : List Rg) (a b lo hi : Int) : growR (l ++ [(a, b)]) lo hi = if b + 1 = lo then l ++ [(a, hi)] else l ++ [(a, b)] ++ [(lo, hi)] := by
  unfold growR
  simp
/-- Made so far: all points ahead of f. -/
structure GwS (out : List Rg) (P : Int → Bool) (f : Int) : Prop where
  can : Can out
  mem : ∀ p, memR out p = (decide (p < f) && P p)
  hi : ∀ r ∈ out, r.2 < f
theorem GwS.start {P : Int → Bool} (h : ∀ p, p < 0 → P p = false) : GwS [] P 0 := ⟨trivial, fun p => by
  rw [memR_nil]
  by_cases q : p < 0
  · rw [h p q]; simp
  · simp [q], fun r hr => by cases hr⟩
theorem GwS.yes {out : List Rg} {P : Int → Bool} {f g : Int} (h : GwS out P f) (hfg : f < g) (h0 : 0 ≤ f) (hg : g ≤ MP + 1) (hP : ∀ p, f ≤ p → p < g → P p = true) : GwS (growR out f (g - 1)) P g := by
  have hm : ∀ p, (decide (p < g) && P p) = ((decide (p < f) && P p) || (decide (f ≤ p) && decide (p ≤ g - 1))) := fun p => by
    by_cases q : f ≤ p ∧ p < g
    · rw [hP p q.1 q.2]
      rw [Bool.eq_iff_iff]; simp; omega
    · cases P p
      · rw [Bool.eq_iff_iff]; simp; omega
      · rw [Bool.eq_iff_iff]; simp; omega
  rcases List.eq_nil_or_concat out with rfl | ⟨l, ⟨a, b⟩, e⟩
  · rw [growR_nil]
    refine ⟨⟨h0, by omega, by omega, trivial⟩, fun p => ?_, fun r hr => by rw [List.mem_singleton] at hr; subst hr; simp only; omega⟩
    rw [hm p, ← h.mem p, memR_nil, memR_cons, memR_nil]; simp
  · rw [List.concat_eq_append] at e
    subst e
    rw [growR_snoc]
    obtain ⟨c1, c2, c3, c4⟩ := CanF.ends h.can
    have hbf := h.hi (a, b) (by simp)
    simp only at hbf
    split
    · rename_i hb
      refine ⟨CanF.last h.can (by omega) (by omega), fun p => ?_, fun r hr => ?_⟩
      · rw [hm p, ← h.mem p, memR_append, memR_append, memR_cons, memR_cons, memR_nil]
        cases memR l p
        · rw [Bool.eq_iff_iff]; simp; omega
        · simp
      · rcases List.mem_append.1 hr with q | q
        · have := h.hi r (List.mem_append_left _ q); omega
        · rw [List.mem_singleton] at q; subst q; simp only; omega
    · rename_i hb
      refine ⟨CanF.snoc h.can (fun r hr => ?_) h0 (by omega) (by omega), fun p => ?_, fun r hr => ?_⟩
      · rcases List.mem_append.1 hr with q | q
        · have := c4 r q; omega
        · rw [List.mem_singleton] at q; subst q; simp only; omega
      · rw [hm p, ← h.mem p, memR_append (l := l ++ [(a, b)]), memR_cons, memR_nil]; simp
      · rcases List.mem_append.1 hr with q | q
        · have := h.hi r q; omega
        · rw [List.mem_singleton] at q; subst q; simp only; omega
theorem GwS.no {out : List Rg} {P : Int → Bool} {f g : Int} (h : GwS out P f) (hfg : f < g) (hP : ∀ p, f ≤ p → p < g → P p = false) : GwS out P g :=
  ⟨h.can, fun p => by
    rw [h.mem p]
    by_cases q : f ≤ p ∧ p < g
    · rw [hP p q.1 q.2]; simp
    · rw [show decide (p < g) = decide (p < f) by rw [decide_eq_decide]; omega], fun r hr => by have := h.hi r hr; omega⟩
theorem GwS.done {out : List Rg} {P : Int → Bool} (h : GwS out P (MP + 1)) (hP : ∀ p, MP < p → P p = false) : IsCan out P :=
  ⟨h.can, fun p => by
    rw [h.mem p]
    by_cases q : p < MP + 1
    · simp [q]
    · rw [hP p (by omega)]; simp⟩
def wantB (how : Int) (x y : Bool) : Bool := if how = 1 then x || y else if how = 2 then x && y else x && !y
theorem wantB_no {how : Int} : wantB how false false = false := by
  unfold wantB
  split
  · rfl
  · split <;> rfl
end Go.Proofs.YthikgdogfkjioaaGreatDoor
namespace Go.Proofs.YthikgdogfkjioaaGreatDoor
set_option linter.unusedVariables false
set_option linter.unusedSimpArgs false

/-- Which of the sets hold a point. -/
def sig (S : List (List Rg)) (p : Int) : List Bool := S.map fun s => inR s p
theorem sig_snoc {S : List (List Rg)} {s : List Rg} {p q : Int} : sig (S ++ [s]) p = sig (S ++ [s]) q ↔ sig S p = sig S q ∧ inR s p = inR s q := by
  unfold sig
  rw [List.map_append, List.map_append]
  constructor
  · intro h
    have hl : (S.map fun s => inR s p).length = (S.map fun s => inR s q).length := by simp
    obtain ⟨h1, h2⟩ := List.append_inj h hl
    exact ⟨h1, by simpa using h2⟩
  · rintro ⟨h1, h2⟩
    rw [h1]; simp [h2]
/-- A class: the points like one. -/
def clP (S : List (List Rg)) (p q : Int) : Bool := isPt q && decide (sig S q = sig S p)
def IsCl (S : List (List Rg)) (c : List Rg) : Prop := ∃ p, isPt p = true ∧ IsCan c (clP S p)
def fstR (c : List Rg) : Int := (c.headD (0, 0)).1
structure Parted (S C : List (List Rg)) : Prop where
  each : ∀ c ∈ C, IsCl S c
  all : ∀ p, isPt p = true → ∃ c ∈ C, memR c p = true
  asc : C.Pairwise fun a b => fstR a < fstR b
theorem same_sorted {α : Type} {f : α → Int} : ∀ {C D : List α}, C.Pairwise (fun a b => f a < f b) → D.Pairwise (fun a b => f a < f b) → (∀ c, c ∈ C ↔ c ∈ D) → C = D
  | [], [], _, _, _ => rfl
  | [], d :: D, _, _, h => absurd ((h d).2 (List.mem_cons_self ..)) (by simp)
  | c :: C, [], _, _, h => absurd ((h c).1 (List.mem_cons_self ..)) (by simp)
  | c :: C, d :: D, hC, hD, h => by
    rw [List.pairwise_cons] at hC hD
    have e : c = d := by
      rcases List.mem_cons.1 ((h c).1 (List.mem_cons_self ..)) with q | q
      · exact q
      · rcases List.mem_cons.1 ((h d).2 (List.mem_cons_self ..)) with q2 | q2
        · exact q2.symm
        · have := hD.1 c q; have := hC.1 d q2; omega
    subst e
    congr 1
    refine same_sorted hC.2 hD.2 fun x => ⟨fun hx => ?_, fun hx => ?_⟩
    · rcases List.mem_cons.1 ((h x).1 (List.mem_cons_of_mem _ hx)) with q | q
      · subst q; have := hC.1 _ hx; omega
      · exact q
    · rcases List.mem_cons.1 ((h x).2 (List.mem_cons_of_mem _ hx)) with q | q
      · subst q; have := hD.1 _ hx; omega
      · exact q
theorem IsCl.eq {S : List (List Rg)} {c d : List Rg} {p : Int} (hc : IsCl S c) (hd : IsCl S d) (h1 : memR c p = true) (h2 : memR d p = true) : c = d := by
  obtain ⟨x, hx, kx⟩ := hc
  obtain ⟨y, hy, ky⟩ := hd
  rw [kx.mem] at h1
  rw [ky.mem] at h2
  unfold clP at h1 h2
  simp only [Bool.and_eq_true, decide_eq_true_eq] at h1 h2
  exact kx.same ky fun q => by unfold clP; rw [← h1.2, ← h2.2]
theorem IsCl.self {S : List (List Rg)} {c : List Rg} (hc : IsCl S c) : ∃ p, isPt p = true ∧ memR c p = true := by
  obtain ⟨x, hx, kx⟩ := hc
  exact ⟨x, hx, by rw [kx.mem]; unfold clP; simp [hx]⟩
/-- There is one such list. -/
theorem Parted.same {S C D : List (List Rg)} (h : Parted S C) (k : Parted S D) : C = D := by
  have half : ∀ {C D : List (List Rg)}, Parted S C → Parted S D → ∀ c, c ∈ C → c ∈ D := fun h k c hc => by
    obtain ⟨p, hp, hm⟩ := (h.each c hc).self
    obtain ⟨d, hd, hm2⟩ := k.all p hp
    rw [(h.each c hc).eq (k.each d hd) hm hm2]
    exact hd
  exact same_sorted h.asc k.asc fun c => ⟨half h k c, half k h c⟩

/-! ### the first point of a canonical set -/
theorem can_ne {c : List Rg} {p : Int} (h : memR c p = true) : c ≠ [] := fun e => by rw [e] at h; cases h
theorem fst_mem {c : List Rg} (h : Can c) (hne : c ≠ []) : memR c (fstR c) = true ∧ ∀ p, memR c p = true → fstR c ≤ p := by
  match c, h, hne with
  | (a, b) :: t, h, _ =>
    obtain ⟨h1, h2, h3, h4⟩ := h
    refine ⟨by rw [memR_cons]; simp [fstR]; exact .inl h2, fun p hp => ?_⟩
    rw [memR_cons] at hp
    simp only [Bool.or_eq_true, Bool.and_eq_true, decide_eq_true_eq] at hp
    show a ≤ p
    rcases hp with q | q
    · exact q.1
    · have := (CanF.le h4 q).1; omega

/-! ### the program: classes made finer, set by set -/
def Disj (a b : List Rg) : Prop := ∀ p, memR a p = true → memR b p = true → False
structure Part (S C : List (List Rg)) : Prop where
  each : ∀ c ∈ C, IsCl S c
  all : ∀ p, isPt p = true → ∃ c ∈ C, memR c p = true
  dis : C.Pairwise Disj
theorem Part.start : Part [] [[(0, 1114111)]] :=
  ⟨fun c hc => by
    rw [List.mem_singleton] at hc
    subst hc
    exact ⟨0, by decide, ⟨by unfold Can CanF; simp [CanF, MP], fun p => by unfold clP sig memR isPt MP; simp⟩⟩,
   fun p hp => ⟨_, List.mem_singleton.2 rfl, by unfold isPt MP at hp; simpa [memR] using hp⟩, List.pairwise_singleton _ _⟩
/-- The classes' parts so far. -/
structure Ref (s : List Rg) (C N : List (List Rg)) : Prop where
  each : ∀ d ∈ N, d ≠ [] ∧ ∃ c ∈ C, ∃ b : Bool, IsCan d (fun p => memR c p && (inR s p == b))
  all : ∀ c ∈ C, ∀ p, memR c p = true → ∃ d ∈ N, memR d p = true
  dis : N.Pairwise Disj
theorem Ref.start {s : List Rg} : Ref s [] [] := ⟨fun d hd => (by cases hd), fun c hc => (by cases hc), List.Pairwise.nil⟩
def keepN (d : List Rg) : List (List Rg) := if d = [] then [] else [d]
theorem mem_keepN {d x : List Rg} : x ∈ keepN d ↔ x = d ∧ d ≠ [] := by
  unfold keepN
  split
  · rename_i h; subst h; simp
  · rename_i h; simp [h]
theorem Ref.step {s : List Rg} {C N : List (List Rg)} {c d1 d2 : List Rg} (h : Ref s C N) (hd : ∀ x ∈ C, Disj x c)
    (h1 : IsCan d1 (fun p => memR c p && inR s p)) (h2 : IsCan d2 (fun p => memR c p && !inR s p)) : Ref s (C ++ [c]) (N ++ keepN d1 ++ keepN d2) := by
  have e1 : IsCan d1 (fun p => memR c p && (inR s p == true)) := h1.congr fun p => by simp
  have e2 : IsCan d2 (fun p => memR c p && (inR s p == false)) := h2.congr fun p => by cases inR s p <;> simp
  have hsub : ∀ d ∈ N, ∃ x ∈ C, ∀ p, memR d p = true → memR x p = true := fun d hdN => by
    obtain ⟨_, x, hx, b, k⟩ := h.each d hdN
    exact ⟨x, hx, fun p hp => by rw [k.mem] at hp; simp at hp; exact hp.1⟩
  have hc1 : ∀ p, memR d1 p = true → memR c p = true ∧ inR s p = true := fun p hp => by rw [h1.mem] at hp; simpa using hp
  have hc2 : ∀ p, memR d2 p = true → memR c p = true ∧ inR s p = false := fun p hp => by rw [h2.mem] at hp; simpa using hp
  refine ⟨fun d hdm => ?_, fun x hx p hp => ?_, ?_⟩
  · rw [List.mem_append, List.mem_append, mem_keepN, mem_keepN] at hdm
    rcases hdm with (q | ⟨rfl, q⟩) | ⟨rfl, q⟩
    · obtain ⟨a, x, hx, b, k⟩ := h.each d q
      exact ⟨a, x, List.mem_append_left _ hx, b, k⟩
    · exact ⟨q, c, by simp, true, e1⟩
    · exact ⟨q, c, by simp, false, e2⟩
  · rw [List.mem_append, List.mem_singleton] at hx
    rcases hx with hx | rfl
    · obtain ⟨d, hdm, q⟩ := h.all x hx p hp
      exact ⟨d, by simp [hdm], q⟩
    · cases hs : inR s p
      · have q : memR d2 p = true := by rw [h2.mem]; simp [hp, hs]
        exact ⟨d2, by rw [List.mem_append, mem_keepN]; exact .inr ⟨rfl, can_ne q⟩, q⟩
      · have q : memR d1 p = true := by rw [h1.mem]; simp [hp, hs]
        exact ⟨d1, by rw [List.mem_append, List.mem_append, mem_keepN]; exact .inl (.inr ⟨rfl, can_ne q⟩), q⟩
  · rw [List.pairwise_append, List.pairwise_append]
    have one : ∀ d, (keepN d).Pairwise Disj := fun d => by unfold keepN; split <;> simp
    refine ⟨⟨h.dis, one _, fun a ha b hb => ?_⟩, one _, fun a ha b hb => ?_⟩
    · rw [mem_keepN] at hb
      obtain ⟨rfl, _⟩ := hb
      obtain ⟨x, hx, k⟩ := hsub a ha
      exact fun p q1 q2 => hd x hx p (k p q1) (hc1 p q2).1
    · rw [mem_keepN] at hb
      obtain ⟨rfl, _⟩ := hb
      rw [List.mem_append, mem_keepN] at ha
      rcases ha with ha | ⟨rfl, _⟩
      · obtain ⟨x, hx, k⟩ := hsub a ha
        exact fun p q1 q2 => hd x hx p (k p q1) (hc2 p q2).1
      · exact fun p q1 q2 => by have a1 := (hc1 p q1).2; have a2 := (hc2 p q2).2; rw [a1] at a2; cases a2
theorem Part.next {S C N : List (List Rg)} {s : List Rg} (h : Part S C) (k : Ref s C N) : Part (S ++ [s]) N := by
  refine ⟨fun d hd => ?_, fun p hp => ?_, k.dis⟩
  · obtain ⟨hne, c, hc, b, kd⟩ := k.each d hd
    obtain ⟨x, hx, kx⟩ := h.each c hc
    have hf := (fst_mem kd.can hne).1
    have hf0 := hf
    rw [kd.mem, kx.mem] at hf
    unfold clP at hf
    simp only [Bool.and_eq_true, decide_eq_true_eq, beq_iff_eq] at hf
    refine ⟨fstR d, hf.1.1, kd.congr fun p => ?_⟩
    rw [kx.mem]
    unfold clP
    cases hp : isPt p
    · simp
    · simp only [Bool.true_and]
      rw [Bool.eq_iff_iff]
      simp only [Bool.and_eq_true, decide_eq_true_eq, beq_iff_eq]
      rw [sig_snoc, hf.1.2, hf.2]
  · obtain ⟨c, hc, q⟩ := h.all p hp
    exact k.all c hc p q
/-- Sorted by their first points. -/
theorem Part.sorted {S C D : List (List Rg)} (h : Part S C) (hp : D.Perm C) (hs : D.Pairwise fun a b => fstR a ≤ fstR b) : Parted S D := by
  refine ⟨fun c hc => h.each c (hp.mem_iff.1 hc), fun p q => ?_, ?_⟩
  · obtain ⟨c, hc, k⟩ := h.all p q
    exact ⟨c, hp.mem_iff.2 hc, k⟩
  · have hd : D.Pairwise Disj := (hp.pairwise_iff (fun {a b} hab p q1 q2 => hab p q2 q1)).2 h.dis
    have hb := hs.and hd
    refine (List.Pairwise.imp_of_mem (fun {a b} ha hb' q => ?_) hb)
    obtain ⟨x, hx, hxm⟩ := (h.each a (hp.mem_iff.1 ha)).self
    obtain ⟨y, hy, hym⟩ := (h.each b (hp.mem_iff.1 hb')).self
    obtain ⟨_, _, ka⟩ := h.each a (hp.mem_iff.1 ha)
    obtain ⟨_, _, kb⟩ := h.each b (hp.mem_iff.1 hb')
    have m1 := (fst_mem ka.can (can_ne hxm)).1
    have m2 := (fst_mem kb.can (can_ne hym)).1
    have hne : fstR a ≠ fstR b := fun e => q.2 (fstR a) m1 (by rw [e]; exact m2)
    have := q.1
    omega
end Go.Proofs.YthikgdogfkjioaaGreatDoor
