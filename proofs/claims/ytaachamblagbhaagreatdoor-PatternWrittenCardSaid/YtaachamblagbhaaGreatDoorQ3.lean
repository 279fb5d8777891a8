/- Plain: the other points; what lies in both; edges, and sets made one by them. No program here. · A block known whole: made by make, read, written; and what stays. · append of whatever slice reads (nil too) to a row of the call's own. -/
import Derived.Test.YtaachamblagbhaaGreatDoorQ1
import Derived.Test.YtaachamblagbhaaGreatDoorQ2
import Derived.Deep.OwnRows
import Derived.Lib.AppendZeros
namespace Go.Proofs.YtaachamblagbhaaGreatDoor
set_option linter.unusedVariables false
set_option linter.unusedSimpArgs false

/-! ### the other points -/
def othF : Int → List Rg → List Rg
  | f, [] => if f ≤ MP then [(f, MP)] else []
  | f, (a, b) :: t => (if f < a then [(f, a - 1)] else []) ++ othF (b + 1) t
theorem othF_can : ∀ {l : List Rg} {f g : Int}, CanF g l → f ≤ g → 0 ≤ f → CanF f (othF f l)
  | [], f, g, _, h, h0 => by
    unfold othF
    split
    · exact ⟨Int.le_refl _, by assumption, Int.le_refl _, trivial⟩
    · trivial
  | (a, b) :: t, f, g, hc, h, h0 => by
    obtain ⟨h1, h2, h3, h4⟩ := hc
    have ih := othF_can (f := b + 1) h4 (by omega) (by omega)
    unfold othF
    split
    · exact ⟨Int.le_refl _, by omega, by omega, ih.mono (by omega)⟩
    · exact ih.mono (by omega)
theorem othF_mem : ∀ {l : List Rg} {f g p : Int}, CanF g l → f ≤ g → memR (othF f l) p = (decide (f ≤ p) && decide (p ≤ MP) && !memR l p)
  | [], f, g, p, _, h => by
    unfold othF
    split
    · rw [memR_cons, memR_nil]; simp
    · rw [memR_nil]
      rw [Bool.eq_iff_iff]; simp; omega
  | (a, b) :: t, f, g, p, hc, h => by
    obtain ⟨h1, h2, h3, h4⟩ := hc
    have ih := othF_mem (f := b + 1) (p := p) h4 (by omega)
    have hb : memR t p = true → b + 2 ≤ p := fun q => (CanF.le h4 q).1
    unfold othF
    rw [memR_append, ih, memR_cons]
    cases hm : memR t p
    · split
      · rw [memR_cons, memR_nil]
        rw [Bool.eq_iff_iff]; simp; omega
      · rw [memR_nil]
        rw [Bool.eq_iff_iff]; simp; omega
    · have := hb hm
      split
      · rw [memR_cons, memR_nil]
        rw [Bool.eq_iff_iff]; simp; omega
      · rw [memR_nil]
        rw [Bool.eq_iff_iff]; simp
/-- The other points of a canonical set. -/
theorem oth_is {l : List Rg} {P : Int → Bool} (h : IsCan l P) : IsCan (othF 0 l) (fun p => isPt p && !P p) :=
  ⟨othF_can h.can (Int.le_refl _) (Int.le_refl _), fun p => by rw [othF_mem h.can (Int.le_refl _), h.mem]; rfl⟩

/-! ### what lies in both -/
structure MtI (A B a b out : List Rg) : Prop where
  ca : ∃ f, CanF f a
  cb : ∃ f, CanF f b
  co : Can out
  mem : ∀ p, (memR A p && memR B p) = (memR out p || (memR a p && memR b p))
  lo : ∀ r ∈ out, (∀ p, memR a p = true → r.2 + 2 ≤ p) ∨ (∀ p, memR b p = true → r.2 + 2 ≤ p)
  pos : ∀ p, memR a p = true → 0 ≤ p
theorem MtI.start {A B : List Rg} (ha : Can A) (hb : Can B) : MtI A B A B [] :=
  ⟨⟨_, ha⟩, ⟨_, hb⟩, trivial, fun p => by rw [memR_nil, Bool.false_or], fun r hr => (by cases hr), fun p h => (CanF.le ha h).1⟩
def metOut (out : List Rg) (x y : Rg) : List Rg := if max x.1 y.1 ≤ min x.2 y.2 then out ++ [(max x.1 y.1, min x.2 y.2)] else out
theorem MtI.step {A B a b out : List Rg} {x y : Rg} (h : MtI A B (x :: a) (y :: b) out) :
    (x.2 < y.2 → MtI A B a (y :: b) (metOut out x y)) ∧ (¬ x.2 < y.2 → MtI A B (x :: a) b (metOut out x y)) := by
  obtain ⟨x1, x2⟩ := x
  obtain ⟨y1, y2⟩ := y
  obtain ⟨⟨f, ca⟩, ⟨g, cb⟩, co, mem, lo, pos⟩ := h
  obtain ⟨a1, a2, a3, a4⟩ := ca
  obtain ⟨b1, b2, b3, b4⟩ := cb
  have hta : ∀ p, memR a p = true → x2 + 2 ≤ p := fun p q => (CanF.le a4 q).1
  have htb : ∀ p, memR b p = true → y2 + 2 ≤ p := fun p q => (CanF.le b4 q).1
  have hx0 : 0 ≤ x1 := pos x1 (by rw [memR_cons]; simp; exact .inl a2)
  have hlo : ∀ r ∈ out, max x1 y1 ≤ min x2 y2 → r.2 + 2 ≤ max x1 y1 := fun r hr q => by
    rcases lo r hr with k | k
    · have := k (max x1 y1) (by rw [memR_cons]; simp; exact .inl (by omega)); exact this
    · have := k (max x1 y1) (by rw [memR_cons]; simp; exact .inl (by omega)); exact this
  have hco : Can (metOut out (x1, x2) (y1, y2)) := by
    unfold metOut
    split
    · rename_i q
      exact CanF.snoc co (fun r hr => hlo r hr q) (by simp only; omega) q (by simp only; omega)
    · exact co
  have hout : ∀ p, memR (metOut out (x1, x2) (y1, y2)) p = (memR out p || (decide (x1 ≤ p) && decide (p ≤ x2) && (decide (y1 ≤ p) && decide (p ≤ y2)))) := fun p => by
    unfold metOut
    simp only
    split
    · rw [memR_append, memR_cons, memR_nil]
      cases memR out p
      · rw [Bool.eq_iff_iff]; simp; omega
      · simp
    · rename_i q
      cases memR out p
      · rw [Bool.eq_iff_iff]; simp; omega
      · simp
  constructor
  · intro hlt
    simp only at hlt
    refine ⟨⟨_, a4⟩, ⟨g, b1, b2, b3, b4⟩, hco, fun p => ?_, fun r hr => ?_, fun p q => pos p (by rw [memR_cons, q]; simp)⟩
    · rw [mem p, hout p, memR_cons, memR_cons]
      cases hm : memR out p
      · cases ha : memR a p
        · cases hb : memR b p
          · simp
          · have := htb p hb
            rw [Bool.eq_iff_iff]; simp; omega
        · have := hta p ha
          rw [Bool.eq_iff_iff]; simp; omega
      · simp
    · have old : r ∈ out → ((∀ p, memR a p = true → r.2 + 2 ≤ p) ∨ (∀ p, memR ((y1, y2) :: b) p = true → r.2 + 2 ≤ p)) := fun k => (lo r k).imp (fun z p q => z p (by rw [memR_cons, q]; simp)) (fun z => z)
      unfold metOut at hr
      simp only at hr
      split at hr
      · rcases List.mem_append.1 hr with k | k
        · exact old k
        · rw [List.mem_singleton] at k; subst k
          exact .inl fun p q => by have := hta p q; simp only; omega
      · exact old hr
  · intro hge
    simp only at hge
    refine ⟨⟨f, a1, a2, a3, a4⟩, ⟨_, b4⟩, hco, fun p => ?_, fun r hr => ?_, pos⟩
    · rw [mem p, hout p, memR_cons, memR_cons]
      cases hm : memR out p
      · cases ha : memR a p
        · cases hb : memR b p
          · simp
          · have := htb p hb
            rw [Bool.eq_iff_iff]; simp; intros; omega
        · cases hb : memR b p
          · have := hta p ha
            rw [Bool.eq_iff_iff]; simp; omega
          · simp
      · simp
    · have old : r ∈ out → ((∀ p, memR ((x1, x2) :: a) p = true → r.2 + 2 ≤ p) ∨ (∀ p, memR b p = true → r.2 + 2 ≤ p)) := fun k => (lo r k).imp (fun z => z) (fun z p q => z p (by rw [memR_cons, q]; simp))
      unfold metOut at hr
      simp only at hr
      split at hr
      · rcases List.mem_append.1 hr with k | k
        · exact old k
        · rw [List.mem_singleton] at k; subst k
          exact .inr fun p q => by have := htb p q; simp only; omega
      · exact old hr
theorem MtI.done {A B a b out : List Rg} {P Q : Int → Bool} (h : MtI A B a b out) (he : a = [] ∨ b = []) (hA : IsCan A P) (hB : IsCan B Q) : IsCan out (fun p => P p && Q p) :=
  ⟨h.co, fun p => by
    have := h.mem p
    rw [hA.mem, hB.mem] at this
    rw [this]
    rcases he with rfl | rfl <;> simp [memR_nil]⟩

/-! ### edges -/
/-- A number put into a list that ascends. -/
def ins (n : Int) : List Int → List Int
  | [] => [n]
  | x :: l => if x < n then x :: ins n l else if x = n then x :: l else n :: x :: l
def Asc (l : List Int) : Prop := l.Pairwise (· < ·)
theorem mem_ins {n x : Int} : ∀ {l : List Int}, x ∈ ins n l ↔ x ∈ l ∨ x = n
  | [] => by simp [ins]
  | y :: l => by
    unfold ins
    split
    · rw [List.mem_cons, mem_ins (l := l), List.mem_cons]; constructor
      · rintro (h | h | h)
        · exact .inl (.inl h)
        · exact .inl (.inr h)
        · exact .inr h
      · rintro ((h | h) | h)
        · exact .inl h
        · exact .inr (.inl h)
        · exact .inr (.inr h)
    · split
      · rename_i h; subst h
        rw [List.mem_cons]
        constructor
        · exact .inl
        · rintro (h | h)
          · exact h
          · exact .inl h
      · rw [List.mem_cons]; constructor
        · rintro (h | h)
          · exact .inr h
          · exact .inl h
        · rintro (h | h)
          · exact .inr h
          · exact .inl h
theorem asc_ins {n : Int} : ∀ {l : List Int}, Asc l → Asc (ins n l)
  | [], _ => by simp [ins, Asc]
  | y :: l, h => by
    obtain ⟨h1, h2⟩ := List.pairwise_cons.1 h
    unfold ins
    split
    · refine List.pairwise_cons.2 ⟨fun z hz => ?_, asc_ins h2⟩
      rcases mem_ins.1 hz with q | q
      · exact h1 z q
      · omega
    · split
      · exact h
      · refine List.pairwise_cons.2 ⟨fun z hz => ?_, h⟩
        rcases List.mem_cons.1 hz with q | q
        · omega
        · have := h1 z q; omega
/-- Where the walk finds the place: k numbers are less. -/
theorem ins_at {n : Int} : ∀ {l : List Int} {k : Nat}, k ≤ l.length → (∀ j, j < k → ∀ h : j < l.length, l[j] < n) → (∀ h : k < l.length, ¬ l[k] < n) → ins n l = if l[k]? = some n then l else l.take k ++ n :: l.drop k
  | [], k, hk, _, _ => by
    obtain rfl : k = 0 := by simpa using hk
    simp [ins]
  | y :: l, 0, _, _, h => by
    have := h (by simp)
    simp only [List.getElem_cons_zero] at this
    unfold ins
    rw [if_neg this]
    simp only [List.getElem?_cons_zero, Option.some.injEq, List.take_zero, List.nil_append, List.drop_zero]
  | y :: l, k + 1, hk, h1, h2 => by
    have h0 := h1 0 (by omega) (by simp)
    simp only [List.getElem_cons_zero] at h0
    have ih := ins_at (n := n) (l := l) (k := k) (by simpa using hk) (fun j hj h => by have := h1 (j + 1) (by omega) (by simpa using h); simpa using this) (fun h => by have := h2 (by simpa using h); simpa using this)
    unfold ins
    rw [if_pos h0, ih, List.getElem?_cons_succ]
    split
    · rfl
    · rfl
def edgR (e : List Int) (r : Rg) : List Int :=
  let e1 := if 0 < r.1 ∧ r.1 ≤ MP then ins r.1 e else e
  if 0 ≤ r.2 ∧ r.2 < MP then ins (r.2 + 1) e1 else e1
def edg (e : List Int) (s : List Rg) : List Int := s.foldl edgR e
/-- Edges: they ascend, from 0 to the one behind the last point. -/
structure EdgO (e : List Int) : Prop where
  asc : Asc e
  bd : ∀ x ∈ e, 0 ≤ x ∧ x ≤ MP + 1
  z : (0 : Int) ∈ e
  t : MP + 1 ∈ e
def EdgB (e : List Int) (r : Rg) : Prop := (0 < r.1 → r.1 ≤ MP → r.1 ∈ e) ∧ (0 ≤ r.2 → r.2 < MP → r.2 + 1 ∈ e)
theorem edg0 : EdgO [0, MP + 1] := ⟨by simp [Asc, MP], fun x hx => by simp at hx; rcases hx with rfl | rfl <;> simp [MP], by simp, by simp⟩
theorem edgR_ok {e : List Int} (r : Rg) (h : EdgO e) : EdgO (edgR e r) ∧ EdgB (edgR e r) r ∧ (∀ x ∈ e, x ∈ edgR e r) := by
  have h1 : EdgO (if 0 < r.1 ∧ r.1 ≤ MP then ins r.1 e else e) := by
    split
    · exact ⟨asc_ins h.asc, fun x hx => (mem_ins.1 hx).elim (h.bd x) (fun q => by omega), mem_ins.2 (.inl h.z), mem_ins.2 (.inl h.t)⟩
    · exact h
  have h2 : (0 < r.1 → r.1 ≤ MP → r.1 ∈ (if 0 < r.1 ∧ r.1 ≤ MP then ins r.1 e else e)) ∧ ∀ x ∈ e, x ∈ (if 0 < r.1 ∧ r.1 ≤ MP then ins r.1 e else e) := by
    split
    · exact ⟨fun _ _ => mem_ins.2 (.inr rfl), fun x hx => mem_ins.2 (.inl hx)⟩
    · rename_i q; exact ⟨fun q1 q2 => absurd ⟨q1, q2⟩ q, fun x hx => hx⟩
  unfold edgR
  simp only
  split
  · rename_i q
    exact ⟨⟨asc_ins h1.asc, fun x hx => (mem_ins.1 hx).elim (h1.bd x) (fun q2 => by omega), mem_ins.2 (.inl h1.z), mem_ins.2 (.inl h1.t)⟩, ⟨fun q1 q2 => mem_ins.2 (.inl (h2.1 q1 q2)), fun _ _ => mem_ins.2 (.inr rfl)⟩, fun x hx => mem_ins.2 (.inl (h2.2 x hx))⟩
  · rename_i q
    exact ⟨h1, ⟨h2.1, fun q1 q2 => absurd ⟨q1, q2⟩ q⟩, h2.2⟩
theorem edg_ok : ∀ (s : List Rg) {e : List Int}, EdgO e → EdgO (edg e s) ∧ (∀ r ∈ s, EdgB (edg e s) r) ∧ (∀ x ∈ e, x ∈ edg e s)
  | [], e, h => ⟨h, fun r hr => (by cases hr), fun x hx => hx⟩
  | r :: s, e, h => by
    obtain ⟨a1, a2, a3⟩ := edgR_ok r h
    obtain ⟨b1, b2, b3⟩ := edg_ok s a1
    refine ⟨b1, fun q hq => ?_, fun x hx => b3 x (a3 x hx)⟩
    rcases List.mem_cons.1 hq with rfl | k
    · exact ⟨fun q1 q2 => b3 _ (a2.1 q1 q2), fun q1 q2 => b3 _ (a2.2 q1 q2)⟩
    · exact b2 q k
theorem EdgB.more {e e' : List Int} {r : Rg} (h : EdgB e r) (hs : ∀ x ∈ e, x ∈ e') : EdgB e' r := ⟨fun a b => hs _ (h.1 a b), fun a b => hs _ (h.2 a b)⟩
/-- Between two edges nothing changes. -/
theorem edg_const {e : List Int} {s : List Rg} (he : EdgO e) (hb : ∀ r ∈ s, EdgB e r) {i : Nat} (hi : i + 1 < e.length) {p : Int} (h1 : e[i] ≤ p) (h2 : p < e[i + 1]) : inR s p = inR s e[i] := by
  have hx := he.bd _ (List.getElem_mem (show i < e.length by omega))
  have hy := he.bd _ (List.getElem_mem hi)
  have hno : ∀ x ∈ e, ¬ (e[i] < x ∧ x < e[i + 1]) := fun x hx q => by
    obtain ⟨j, hj, rfl⟩ := List.getElem_of_mem hx
    have ha := he.asc
    unfold Asc at ha
    rw [List.pairwise_iff_getElem] at ha
    rcases Nat.lt_trichotomy j (i + 1) with q2 | q2 | q2
    · rcases Nat.lt_or_ge j i with q3 | q3
      · have := ha j i hj (by omega) q3; omega
      · obtain rfl : j = i := by omega
        omega
    · subst q2; omega
    · have := ha (i + 1) j hi hj q2; omega
  unfold inR
  have e1 : isPt p = true := by simp [isPt]; omega
  have e2 : isPt e[i] = true := by simp [isPt]; omega
  rw [e1, e2, Bool.true_and, Bool.true_and]
  unfold memR
  rw [Bool.eq_iff_iff, List.any_eq_true, List.any_eq_true]
  constructor
  · rintro ⟨r, hr, q⟩
    simp only [Bool.and_eq_true, decide_eq_true_eq] at q
    refine ⟨r, hr, ?_⟩
    simp only [Bool.and_eq_true, decide_eq_true_eq]
    refine ⟨?_, by omega⟩
    apply Classical.byContradiction
    intro k
    exact hno r.1 ((hb r hr).1 (by omega) (by omega)) ⟨by omega, by omega⟩
  · rintro ⟨r, hr, q⟩
    simp only [Bool.and_eq_true, decide_eq_true_eq] at q
    refine ⟨r, hr, ?_⟩
    simp only [Bool.and_eq_true, decide_eq_true_eq]
    refine ⟨by omega, ?_⟩
    apply Classical.byContradiction
    intro k
    exact hno (r.2 + 1) ((hb r hr).2 (by omega) (by omega)) ⟨by omega, by omega⟩

/-! ### sets made one -/
/-- A stretch more behind. -/
def growR (out : List Rg) (lo hi : Int) : List Rg :=
  match out.reverse with
  | [] => [(lo, hi)]
  | (a, b) :: t => if b + 1 = lo then t.reverse ++ [(a, hi)] else out ++ [(lo, hi)]
theorem growR_nil (lo hi : Int) : growR [] lo hi = [(lo, hi)] := rfl
theorem growR_snoc (l : List Rg) (a b lo hi : Int) : growR (l ++ [(a, b)]) lo hi = if b + 1 = lo then l ++ [(a, hi)] else l ++ [(a, b)] ++ [(lo, hi)] := by
  unfold growR
  simp
/-- Made so far: all points ahead of f. -/
structure GwS (out : List Rg) (P : Int → Bool) (f : Int) : Prop where
  can : Can out
  mem : ∀ p, memR out p = (decide (p < f) && P p)
  hi : ∀ r ∈ out, r.2 < f
theorem GwS.start {P : Int → Bool} (h : ∀ p, p < 0 → P p = false) : GwS [] P 0 := ⟨trivial, fun p => by
  rw [memR_nil]
  by_cases q : p < 0
  · rw [h p q]; simp
  · simp [q], fun r hr => by cases hr⟩
theorem GwS.yes {out : List Rg} {P : Int → Bool} {f g : Int} (h : GwS out P f) (hfg : f < g) (h0 : 0 ≤ f) (hg : g ≤ MP + 1) (hP : ∀ p, f ≤ p → p < g → P p = true) : GwS (growR out f (g - 1)) P g := by
  have hm : ∀ p, (decide (p < g) && P p) = ((decide (p < f) && P p) || (decide (f ≤ p) && decide (p ≤ g - 1))) := fun p => by
    by_cases q : f ≤ p ∧ p < g
    · rw [hP p q.1 q.2]
      rw [Bool.eq_iff_iff]; simp; omega
    · cases P p
      · rw [Bool.eq_iff_iff]; simp; omega
      · rw [Bool.eq_iff_iff]; simp; omega
  rcases List.eq_nil_or_concat out with rfl | ⟨l, ⟨a, b⟩, e⟩
  · rw [growR_nil]
    refine ⟨⟨h0, by omega, by omega, trivial⟩, fun p => ?_, fun r hr => by rw [List.mem_singleton] at hr; subst hr; simp only; omega⟩
    rw [hm p, ← h.mem p, memR_nil, memR_cons, memR_nil]; simp
  · rw [List.concat_eq_append] at e
    subst e
    rw [growR_snoc]
    obtain ⟨c1, c2, c3, c4⟩ := CanF.ends h.can
    have hbf := h.hi (a, b) (by simp)
    simp only at hbf
    split
    · rename_i hb
      refine ⟨CanF.last h.can (by omega) (by omega), fun p => ?_, fun r hr => ?_⟩
      · rw [hm p, ← h.mem p, memR_append, memR_append, memR_cons, memR_cons, memR_nil]
        cases memR l p
        · rw [Bool.eq_iff_iff]; simp; omega
        · simp
      · rcases List.mem_append.1 hr with q | q
        · have := h.hi r (List.mem_append_left _ q); omega
        · rw [List.mem_singleton] at q; subst q; simp only; omega
    · rename_i hb
      refine ⟨CanF.snoc h.can (fun r hr => ?_) h0 (by omega) (by omega), fun p => ?_, fun r hr => ?_⟩
      · rcases List.mem_append.1 hr with q | q
        · have := c4 r q; omega
        · rw [List.mem_singleton] at q; subst q; simp only; omega
      · rw [hm p, ← h.mem p, memR_append (l := l ++ [(a, b)]), memR_cons, memR_nil]; simp
      · rcases List.mem_append.1 hr with q | q
        · have := h.hi r q; omega
        · rw [List.mem_singleton] at q; subst q; simp only; omega
theorem GwS.no {out : List Rg} {P : Int → Bool} {f g : Int} (h : GwS out P f) (hfg : f < g) (hP : ∀ p, f ≤ p → p < g → P p = false) : GwS out P g :=
  ⟨h.can, fun p => by
    rw [h.mem p]
    by_cases q : f ≤ p ∧ p < g
    · rw [hP p q.1 q.2]; simp
    · rw [show decide (p < g) = decide (p < f) by rw [decide_eq_decide]; omega], fun r hr => by have := h.hi r hr; omega⟩
theorem GwS.done {out : List Rg} {P : Int → Bool} (h : GwS out P (MP + 1)) (hP : ∀ p, MP < p → P p = false) : IsCan out P :=
  ⟨h.can, fun p => by
    rw [h.mem p]
    by_cases q : p < MP + 1
    · simp [q]
    · rw [hP p (by omega)]; simp⟩
def wantB (how : Int) (x y : Bool) : Bool := if how = 1 then x || y else if how = 2 then x && y else x && !y
theorem wantB_no {how : Int} : wantB how false false = false := by
  unfold wantB
  split
  · rfl
  · split <;> rfl
end Go.Proofs.YtaachamblagbhaaGreatDoor
namespace Go.Proofs.YtaachamblagbhaaGreatDoor
open Go.RowKit
set_option linter.unusedVariables false
set_option linter.unusedSimpArgs false
set_option maxRecDepth 100000

def Blk (w : World) (g : Nat) (e : TypeId) (vs : List Value) : Prop := w.heap[g]? = some (.cells vs.toArray e (0, 0))

section
variable {w w' : World} {g : Nat} {e : TypeId} {vs : List Value}
theorem Blk.lt (h : Blk w g e vs) : g < w.heap.size := (Array.getElem?_eq_some_iff.1 h).1
theorem Blk.cell (h : Blk w g e vs) {i : Nat} {u : Value} (hu : vs[i]? = some u) : w.cell? ⟨g, i, none⟩ = some u := by
  rw [cell_of_row w g i _ e (0, 0) h]; simpa using hu
theorem Blk.frozen (h : Blk w g e vs) (i : Nat) : w.frozen? ⟨g, i, none⟩ = false := by
  unfold Blk at h
  simp [World.frozen?, h]
theorem Blk.new (w : World) (e : TypeId) (vs : List Value) : Blk (w.alloc (.cells vs.toArray e)) w.heap.size e vs := heap_alloc_new w _
theorem Blk.drew (h : Blk w g e vs) : Blk w.drew g e vs := h
theorem Blk.drewN (h : Blk w g e vs) (n : Nat) : Blk (w.drewN n) g e vs := h
theorem Blk.alloc (h : Blk w g e vs) (o : Obj) : Blk (w.alloc o) g e vs := (Below.heap_alloc w o g h.lt).trans h
theorem Blk.set_ (h : Blk w g e vs) (i : Nat) (u : Value) : Blk (w.setCell ⟨g, i, none⟩ u) g e (vs.set i u) := by
  unfold Blk at h ⊢
  simp [World.setCell, Array.getElem?_modify, h]
theorem Blk.far (h : Blk w g e vs) {p : Addr} (hp : g ≠ p.block) (u : Value) : Blk (w.setCell p u) g e vs := (Below.heap_setCell w p u g hp).trans h
theorem Blk.below {B : Nat} (h : Blk w g e vs) (hb : Below B w w') (hg : g < B) : Blk w' g e vs := (hb.block g hg).trans h
theorem Blk.below' (h : Blk w g e vs) (hb : Below w.heap.size w w') : Blk w' g e vs := h.below hb h.lt
theorem Blk.grown {row : Option Nat} (h : Blk w g e vs) (hb : w.grownBy w' row) (hg : some g ≠ row) : Blk w' g e vs := (hb.block g h.lt hg).trans h
end

theorem setCell_size (w : World) (p : Addr) (u : Value) : (w.setCell p u).heap.size = w.heap.size := by simp [World.setCell]

/-- n zeros. -/
def zs (z : Value) (n : Nat) : Array Value := (List.replicate n z).toArray

theorem madeCells_one (z : Value) (n : Nat) : madeCells #[z] n = zs z n := by
  apply Array.ext'
  simp [madeCells, zs]
  apply List.ext_getElem?
  intro i
  by_cases h : i < n
  · simp [h, Nat.mod_one]
  · simp [h]

theorem mk_row {P : Program} {t e : TypeId} {bytes : Nat} {z : Value} (E : ElTy P t e 1 bytes z) (hz1 : z.cells = #[z]) (kl kc : IntKind) (n : Nat) (k : Int) (hk : k = n) (hbytes : bytes * n ≤ 281474976710656) (h63 : n ≤ 9223372036854775807) (w : World) :
    (Instr.makeSlice t (.int kl k) (.int kc k)).run P w = .ok (.slice (some ⟨w.heap.size, 0, none⟩) n n) (w.alloc (.cells (zs z n) e)) := by
  subst hk
  rw [run_make_row' t e z bytes E.ht E.hi hz1 kl kc n hbytes h63 w, madeCells_one]

theorem Blk.made (w : World) (e : TypeId) (z : Value) (n : Nat) : Blk (w.alloc (.cells (zs z n) e)) w.heap.size e (List.replicate n z) := heap_alloc_new w _

/-- Lists of integers, of bools, as cells. -/
def iv (l : List Int) : List Value := l.map (Value.int .i64)
def bv (l : List Bool) : List Value := l.map Value.bool
theorem iv_get {l : List Int} {k : Nat} (h : k < l.length) : (iv l)[k]? = some (.int .i64 (nth l k)) := by
  unfold iv; rw [List.getElem?_map, nth_some h]; rfl
theorem iv_set (l : List Int) (k : Nat) (x : Int) : (iv l).set k (.int .i64 x) = iv (l.set k x) := by unfold iv; rw [List.map_set]
theorem iv_rep (n : Nat) (x : Int) : List.replicate n (Value.int .i64 x) = iv (List.replicate n x) := by unfold iv; rw [List.map_replicate]
theorem iv_len (l : List Int) : (iv l).length = l.length := List.length_map _
def bth (l : List Bool) (k : Nat) : Bool := l.getD k false
theorem bth_get {l : List Bool} {k : Nat} (h : k < l.length) : bth l k = l[k] := by simp [bth, h]
theorem bth_some {l : List Bool} {k : Nat} (h : k < l.length) : l[k]? = some (bth l k) := by rw [bth_get h, List.getElem?_eq_getElem h]
theorem bv_get {l : List Bool} {k : Nat} (h : k < l.length) : (bv l)[k]? = some (.bool (bth l k)) := by
  unfold bv; rw [List.getElem?_map, bth_some h]; rfl
theorem bv_set (l : List Bool) (k : Nat) (x : Bool) : (bv l).set k (.bool x) = bv (l.set k x) := by unfold bv; rw [List.map_set]
theorem bv_rep (n : Nat) (x : Bool) : List.replicate n (Value.bool x) = bv (List.replicate n x) := by unfold bv; rw [List.map_replicate]
theorem bv_len (l : List Bool) : (bv l).length = l.length := List.length_map _

theorem Blk.icell {w : World} {g : Nat} {e : TypeId} {l : List Int} (h : Blk w g e (iv l)) {k : Nat} (hk : k < l.length) : w.cell? ⟨g, k, none⟩ = some (.int .i64 (nth l k)) := h.cell (iv_get hk)
theorem Blk.iset {w : World} {g : Nat} {e : TypeId} {l : List Int} (h : Blk w g e (iv l)) (k : Nat) (x : Int) : Blk (w.setCell ⟨g, k, none⟩ (.int .i64 x)) g e (iv (l.set k x)) := by rw [← iv_set]; exact h.set_ k _
theorem Blk.bcell {w : World} {g : Nat} {e : TypeId} {l : List Bool} (h : Blk w g e (bv l)) {k : Nat} (hk : k < l.length) : w.cell? ⟨g, k, none⟩ = some (.bool (bth l k)) := h.cell (bv_get hk)
theorem Blk.bset {w : World} {g : Nat} {e : TypeId} {l : List Bool} (h : Blk w g e (bv l)) (k : Nat) (x : Bool) : Blk (w.setCell ⟨g, k, none⟩ (.bool x)) g e (bv (l.set k x)) := by rw [← bv_set]; exact h.set_ k _

/-- A whole block of integers as a slice that reads. -/
theorem Blk.rdI {w : World} {g : Nat} {e : TypeId} {l : List Int} (h : Blk w g e (iv l)) {B : Nat} (hB : g < B) : RdI w B (some ⟨g, 0, none⟩) l := fun _ =>
  ⟨g, 0, rfl, hB, fun j u hu => by rw [Nat.zero_add]; exact h.cell hu⟩
theorem nth_set {l : List Int} {k j : Nat} {x : Int} (hk : k < l.length) : nth (l.set k x) j = if k = j then x else nth l j := by
  unfold nth
  by_cases h : k = j
  · subst h; simp [List.getD, hk]
  · simp [List.getD, h]
theorem bth_set {l : List Bool} {k j : Nat} {x : Bool} (hk : k < l.length) : bth (l.set k x) j = if k = j then x else bth l j := by
  unfold bth
  by_cases h : k = j
  · subst h; simp [List.getD, hk]
  · simp [List.getD, h]
end Go.Proofs.YtaachamblagbhaaGreatDoor
namespace Go.Proofs.YtaachamblagbhaaGreatDoor
open Go.RowKit
set_option linter.unusedVariables false
set_option linter.unusedSimpArgs false
set_option maxRecDepth 100000

section
variable {P : Program} {t e : TypeId} {size bytes : Nat} {z : Value}

theorem run_app_zero (E : ElTy P t e size bytes z) (ty : TypeId) (w : World) (A : Option Addr) (n cap : Nat) (hc : n ≤ cap) (A' : Option Addr) (c : Nat) :
    (Builtin.append_ #[t, t] ty #[.slice A n cap, .slice A' 0 c]).run P w = .ok (.slice A n cap) w := by
  obtain ⟨i, hi, hz, hsz, hby⟩ := info_parts E.hi
  cases A <;> cases A' <;> simp [Builtin.append_, run_underlying E.ht, sizeOf, typeInfo, hi, Builtin.lenOf, Builtin.firstCells, loadCells, loadCellsFrom, storeCells, hc]

theorem wpList_app_rd (E : ElTy P t e size bytes z) {ops : Array Oper} {rest : List Oper} {o : Oper} {a : Act} {Q : Exit → Act → World → Prop} {w : World} (hgd : o.guard = none) (s x : Operand)
    (ho : o.op = .call { callee := .builtin .append, args := #[s, x], argTypes := #[t, t] })
    (base : Nat) (v : Value) (n m c B : Nat) (A : Option Addr) (xs news : List Value) (hs : a.eval s = v) (hown : w.ownsRow base e size v n xs)
    (hx : a.eval x = .slice A m c) (hl : news.length = m * size) (hr : Rd w B A news) (h1 : ∀ u ∈ news, u.oneCell' = true)
    (h63 : n + m ≤ 140737488355328) (hbytes : (n + m) * bytes ≤ 140737488355328) (hbase : base ≤ w.heap.size)
    (h : ∀ v' w', w'.ownsRow base e size v' (n + m) (xs ++ news) → w.grownBy w' v.ownBlock → (v'.ownBlock = v.ownBlock ∨ v'.ownBlock = some w.heap.size) → wpList P ops Q rest (a.put o.dst v') w') :
    wpList P ops Q (o :: rest) a w := by
  obtain ⟨i, hi, hz, hsz, hby⟩ := info_parts E.hi
  by_cases hm : m = 0
  · subst hm
    obtain rfl : news = [] := List.eq_nil_of_length_eq_zero (by simpa using hl)
    obtain ⟨A1, n1, c1, hv, hle⟩ : ∃ A1 n1 c1, v = .slice A1 n1 c1 ∧ n1 ≤ c1 := by
      rcases hown.2 with ⟨rfl, rfl⟩ | ⟨g, cap, cur, rfl, _, _, hn, _⟩
      · exact ⟨_, _, _, rfl, Nat.le_refl _⟩
      · exact ⟨_, _, _, rfl, hn⟩
    subst hv
    refine Lib.wpList_append_run w hgd s x t t ho _ _ hs hx _ w (run_app_zero E o.type w A1 n1 c1 hle A c) (h _ w ?_ ⟨rfl, rfl, rfl, Nat.le_refl _, fun _ _ _ => rfl⟩ (Or.inl rfl))
    rw [List.append_nil]; exact hown
  · have hne : news ≠ [] := by
      intro e0; subst e0
      have := E.hs
      have : 0 < m * size := Nat.mul_pos (by omega) this
      simp at hl; omega
    obtain ⟨b, off, rfl, hb, hc⟩ := hr hne
    refine wpList_append_own_at _ hgd s x t ho base e i z size bytes E.ht hi hz hsz hby E.hz E.hs v n xs hs hown ⟨b, off, none⟩ m c news hx hl (fun j u hu => ?_) h1 (by simp only [maxLen]; omega) hbytes hbase ?_
    · have hadd : (⟨b, off, none⟩ : Addr).add j = ⟨b, off + j, none⟩ := by unfold Addr.add; split <;> simp_all
      rw [hadd]; exact hc j u hu
    · intro v' w' h2 h3 _ h5
      exact h v' w' h2 h3 h5
end

theorem iv_one (l : List Int) : ∀ u ∈ iv l, u.oneCell' = true := by
  intro u hu
  unfold iv at hu
  rw [List.mem_map] at hu
  obtain ⟨x, _, rfl⟩ := hu
  rfl
end Go.Proofs.YtaachamblagbhaaGreatDoor
