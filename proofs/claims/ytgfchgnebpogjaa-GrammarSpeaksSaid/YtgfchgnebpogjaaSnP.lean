/- Plain: shortest sentences: what is derived; two ways to the first of the shortest. No program here. -/
import Derived.Test.YtgfchgnebpogjaaShoP
namespace Go.Proofs.Ytgfchgnebpogjaa
set_option linter.unusedVariables false
set_option linter.unusedSimpArgs false

/-- a stands ahead of b: the first place that is not the same decides. -/
def lexlt : List Int → List Int → Bool
  | [], [] => false
  | [], _ :: _ => true
  | _ :: _, [] => false
  | a :: x, b :: y => decide (a < b) || (decide (a = b) && lexlt x y)
def earl (a b : List Int) : Bool := if a.length = b.length then lexlt a b else decide (a.length < b.length)

theorem lexlt_tri : ∀ (a b : List Int), a.length = b.length → lexlt a b = false → lexlt b a = false → a = b
  | [], [], _, _, _ => rfl
  | [], _ :: _, h, _, _ => by simp at h
  | _ :: _, [], h, _, _ => by simp at h
  | a :: x, b :: y, h, h1, h2 => by
    simp only [lexlt, Bool.or_eq_false_iff, Bool.and_eq_false_iff, decide_eq_false_iff_not] at h1 h2
    have e : a = b := by omega
    subst e
    have := lexlt_tri x y (by simpa using h) (by rcases h1.2 with h | h; exact absurd rfl h; exact h) (by rcases h2.2 with h | h; exact absurd rfl h; exact h)
    rw [this]
theorem lexlt_irrefl : ∀ (a : List Int), lexlt a a = false
  | [] => rfl
  | a :: x => by simp [lexlt, lexlt_irrefl x]
theorem lexlt_trans' : ∀ (a b c : List Int), a.length = b.length → b.length = c.length → lexlt c b = false → lexlt b a = false → lexlt c a = false
  | [], [], [], _, _, _, _ => rfl
  | [], _ :: _, _, h, _, _, _ => by simp at h
  | _ :: _, [], _, h, _, _, _ => by simp at h
  | _, [], _ :: _, _, h, _, _ => by simp at h
  | _, _ :: _, [], _, h, _, _ => by simp at h
  | a :: x, b :: y, c :: z, h1, h2, h3, h4 => by
    simp only [lexlt, Bool.or_eq_false_iff, Bool.and_eq_false_iff, decide_eq_false_iff_not] at h3 h4 ⊢
    refine ⟨by omega, ?_⟩
    by_cases e : c = a
    · right
      have e1 : c = b := by omega
      have e2 : b = a := by omega
      exact lexlt_trans' x y z (by simpa using h1) (by simpa using h2) (by rcases h3.2 with h | h; exact absurd e1 h; exact h) (by rcases h4.2 with h | h; exact absurd e2 h; exact h)
    · exact .inl e
/-- b is not behind a: as long, and not ahead the other way round. -/
def le (b a : List Int) : Prop := b.length = a.length ∧ lexlt a b = false
theorem le.refl (a : List Int) : le a a := ⟨rfl, lexlt_irrefl a⟩
theorem le.trans {a b c : List Int} (h : le a b) (k : le b c) : le a c := ⟨h.1.trans k.1, lexlt_trans' a b c h.1 k.1 k.2 h.2⟩
theorem le.cons (s : Int) {a b : List Int} (h : le a b) : le (s :: a) (s :: b) := ⟨by simp [h.1], by simp [lexlt, h.2]⟩
theorem le.app : ∀ {a b c d : List Int}, le a b → le c d → le (a ++ c) (b ++ d)
  | [], [], _, _, _, k => k
  | [], _ :: _, _, _, h, _ => by have := h.1; simp at this
  | _ :: _, [], _, _, h, _ => by have := h.1; simp at this
  | a :: x, b :: y, c, d, h, k => by
    have hl : x.length = y.length := by have := h.1; simpa using this
    have h2 := h.2
    simp only [lexlt, Bool.or_eq_false_iff, Bool.and_eq_false_iff, decide_eq_false_iff_not] at h2
    refine ⟨by simp [hl, k.1], ?_⟩
    simp only [List.cons_append, lexlt, Bool.or_eq_false_iff, Bool.and_eq_false_iff, decide_eq_false_iff_not]
    refine ⟨h2.1, ?_⟩
    by_cases e : b = a
    · right
      exact (le.app (a := x) (b := y) ⟨hl, by rcases h2.2 with h | h; exact absurd e h; exact h⟩ k).2
    · exact .inl e

/-! ### what is derived -/
section
variable (ps : List Pr)
/-- The pieces of a right side, each of R. -/
def Cat (R : Nat → List Int → Prop) : List Int → List Int → Prop
  | [], l => l = []
  | s :: r, l => ∃ a b, l = a ++ b ∧ (if s < 0 then R (-1 - s).toNat a else a = [s]) ∧ Cat R r b
theorem Cat.mono {R R' : Nat → List Int → Prop} (h : ∀ X a, R X a → R' X a) : ∀ (r l : List Int), Cat R r l → Cat R' r l
  | [], _, hc => hc
  | s :: r, l, ⟨a, b, e, h1, h2⟩ => by
    refine ⟨a, b, e, ?_, Cat.mono h r b h2⟩
    by_cases hs : s < 0
    · rw [if_pos hs] at h1 ⊢; exact h _ _ h1
    · rw [if_neg hs] at h1 ⊢; exact h1
/-- By a tree of at most that height. -/
def DerH : Nat → Nat → List Int → Prop
  | 0, _, _ => False
  | h + 1, X, l => ∃ p ∈ ps, p.1.toNat = X ∧ Cat (DerH h) p.2.1 l
def Der (X : Nat) (l : List Int) : Prop := ∃ h, DerH ps h X l
theorem DerH.up : ∀ {h : Nat} {X : Nat} {l : List Int}, DerH ps h X l → DerH ps (h + 1) X l
  | 0, _, _, hd => hd.elim
  | h + 1, _, _, ⟨p, hp, e, hc⟩ => ⟨p, hp, e, Cat.mono (fun X a => DerH.up (h := h)) _ _ hc⟩
theorem DerH.mono {h k : Nat} (hk : h ≤ k) {X : Nat} {l : List Int} (hd : DerH ps h X l) : DerH ps k X l := by
  induction k with
  | zero =>
    have e : h = 0 := by omega
    rw [e] at hd; exact hd
  | succ k ih =>
    by_cases e : h = k + 1
    · subst e; exact hd
    · exact (ih (by omega)).up
theorem Der.cat : ∀ {r l : List Int}, Cat (Der ps) r l → ∃ h, Cat (DerH ps h) r l
  | [], l, h => ⟨0, h⟩
  | s :: r, l, ⟨a, b, e, h1, h2⟩ => by
    obtain ⟨k, hk⟩ := Der.cat h2
    by_cases hs : s < 0
    · rw [if_pos hs] at h1
      obtain ⟨h, hh⟩ := h1
      exact ⟨max h k, a, b, e, by rw [if_pos hs]; exact hh.mono _ (by omega), Cat.mono (fun X a q => q.mono _ (by omega)) _ _ hk⟩
    · rw [if_neg hs] at h1
      exact ⟨k, a, b, e, by rw [if_neg hs]; exact h1, hk⟩
theorem Der.mk {p : Pr} (hp : p ∈ ps) {l : List Int} (h : Cat (Der ps) p.2.1 l) : Der ps p.1.toNat l := by
  obtain ⟨k, hk⟩ := Der.cat ps h
  exact ⟨k + 1, p, hp, rfl, hk⟩

/-! ### lengths -/
/-- x is what Short tells: nothing is new, and each number is of a sentence. -/
structure IsShort (x : List Int) : Prop where
  fix : ∀ p ∈ ps, lenF x 0 p.2.1 < 0 ∨ (0 ≤ nth x p.1.toNat ∧ nth x p.1.toNat ≤ lenF x 0 p.2.1)
  der : ∀ X, X < x.length → 0 ≤ nth x X → ∃ l, Der ps X l ∧ nth x X = min (l.length : Int) 1000000

theorem lenF_cat {x : List Int} {R : Nat → List Int → Prop} (hR : ∀ X a, R X a → 0 ≤ nth x X ∧ nth x X ≤ a.length) : ∀ (r l : List Int), Cat R r l → (∀ s ∈ r, 0 ≤ symL x s) ∧ sumS x r ≤ l.length
  | [], l, h => ⟨(fun s hs => by cases hs), by simp [sumS]⟩
  | s :: r, l, ⟨a, b, e, h1, h2⟩ => by
    obtain ⟨i1, i2⟩ := lenF_cat hR r b h2
    have hs : 0 ≤ symL x s ∧ symL x s ≤ a.length := by
      unfold symL
      by_cases hs : s < 0
      · rw [if_pos hs] at h1 ⊢; exact hR _ _ h1
      · rw [if_neg hs] at h1 ⊢; subst h1; simp
    refine ⟨fun t ht => ?_, ?_⟩
    · rcases List.mem_cons.1 ht with rfl | ht
      · exact hs.1
      · exact i1 t ht
    · subst e; simp only [sumS, List.length_append]; omega
theorem isShort_le {x : List Int} (hx : IsShort ps x) : ∀ (h : Nat) (X : Nat) (l : List Int), DerH ps h X l → 0 ≤ nth x X ∧ nth x X ≤ l.length
  | 0, _, _, hd => hd.elim
  | h + 1, X, l, ⟨p, hp, e, hc⟩ => by
    obtain ⟨i1, i2⟩ := lenF_cat (isShort_le hx h) _ _ hc
    have h1 := lenF_sum p.2.1 0 (by omega) (by omega) i1
    have h2 := sumS_nonneg p.2.1 i1
    subst e
    rcases hx.fix p hp with h | h <;> omega

/-- Where a sentence is as short as can be, all its pieces are. -/
theorem cat_tight {x : List Int} {R : Nat → List Int → Prop} (hR : ∀ X a, R X a → 0 ≤ nth x X ∧ nth x X ≤ a.length) : ∀ (r l : List Int), Cat R r l → (l.length : Int) ≤ sumS x r → Cat (fun X a => R X a ∧ (a.length : Int) = nth x X) r l
  | [], l, h, _ => h
  | s :: r, l, ⟨a, b, e, h1, h2⟩, hl => by
    obtain ⟨i1, i2⟩ := lenF_cat hR r b h2
    subst e
    simp only [sumS, List.length_append] at hl
    by_cases hs : s < 0
    · have h1' := h1
      rw [if_pos hs] at h1'
      have := hR _ _ h1'
      have hy : symL x s = nth x (-1 - s).toNat := by unfold symL; rw [if_pos hs]
      rw [hy] at hl
      exact ⟨a, b, rfl, by rw [if_pos hs]; exact ⟨h1', by omega⟩, cat_tight hR r b h2 (by omega)⟩
    · have h1' := h1
      rw [if_neg hs] at h1'
      have hy : symL x s = 1 := by unfold symL; rw [if_neg hs]
      rw [hy] at hl
      subst h1'
      exact ⟨[s], b, rfl, by rw [if_neg hs], cat_tight hR r b h2 (by simp at hl; omega)⟩

/-! ### states: of each name the sentence that is had -/
abbrev Sn := List (Option (List Int))
def sn (st : Sn) (k : Nat) : Option (List Int) := st.getD k none
theorem sn_set {st : Sn} {k j : Nat} {v : Option (List Int)} (hk : k < st.length) : sn (st.set k v) j = if k = j then v else sn st j := by
  unfold sn
  by_cases h : k = j
  · subst h; simp [List.getD, hk]
  · simp [List.getD, h]
/-- The sentence of symbols. -/
def sentF (st : Sn) : List Int → Option (List Int)
  | [] => some []
  | s :: r => match (if s < 0 then sn st (-1 - s).toNat else some [s]), sentF st r with
    | some a, some b => some (a ++ b)
    | _, _ => none
theorem sentF_cat {st : Sn} {R : Nat → List Int → Prop} (hR : ∀ X a, sn st X = some a → R X a) : ∀ (r l : List Int), sentF st r = some l → Cat R r l
  | [], l, h => by simp [sentF] at h; show l = []; exact h
  | s :: r, l, h => by
    simp only [sentF] at h
    split at h
    · rename_i a b h1 h2
      simp at h
      refine ⟨a, b, h.symm, ?_, sentF_cat hR r b h2⟩
      split at h1
      · rw [if_pos ‹_›]; exact hR _ _ h1
      · rw [if_neg ‹_›]; simp at h1; exact h1.symm
    · cases h
/-- What is had of each piece, joined, is not behind. -/
theorem cat_sent {st : Sn} {R : Nat → List Int → Prop} (hR : ∀ X a, R X a → ∃ b, sn st X = some b ∧ le b a) : ∀ (r l : List Int), Cat R r l → ∃ b, sentF st r = some b ∧ le b l
  | [], l, h => ⟨[], rfl, by rw [show l = [] from h]; exact le.refl _⟩
  | s :: r, l, ⟨a, b, e, h1, h2⟩ => by
    obtain ⟨b2, e2, l2⟩ := cat_sent hR r b h2
    subst e
    by_cases hs : s < 0
    · rw [if_pos hs] at h1
      obtain ⟨b1, e1, l1⟩ := hR _ _ h1
      exact ⟨b1 ++ b2, by simp only [sentF]; rw [if_pos hs, e1, e2], l1.app l2⟩
    · rw [if_neg hs] at h1
      subst h1
      exact ⟨[s] ++ b2, by simp only [sentF]; rw [if_neg hs, e2], (le.refl [s]).app l2⟩

/-- The program's step at a length. -/
def stepN (x : List Int) (size : Int) (_ : Nat) (p : Pr) (st : Sn) : Sn × Bool :=
  if nth x p.1.toNat ≠ size ∨ lenF x 0 p.2.1 ≠ size then (st, false) else
  match sentF st p.2.1 with
  | none => (st, false)
  | some l => match sn st p.1.toNat with
    | none => (st.set p.1.toNat (some l), true)
    | some b => if lexlt l b = true then (st.set p.1.toNat (some l), true) else (st, false)
/-- The document's. -/
def stepD (_ : Nat) (p : Pr) (st : Sn) : Sn × Bool :=
  match sentF st p.2.1 with
  | none => (st, false)
  | some l => if 1000 < l.length then (st, false) else match sn st p.1.toNat with
    | none => (st.set p.1.toNat (some l), true)
    | some b => if earl l b = true then (st.set p.1.toNat (some l), true) else (st, false)
theorem stepN_same {x : List Int} {size : Int} (i : Nat) (p : Pr) (st : Sn) (h : (stepN x size i p st).2 = false) : (stepN x size i p st).1 = st := by
  unfold stepN at h ⊢
  repeat' split at h
  all_goals simp_all
theorem stepD_same (i : Nat) (p : Pr) (st : Sn) (h : (stepD i p st).2 = false) : (stepD i p st).1 = st := by
  unfold stepD at h ⊢
  repeat' split at h
  all_goals simp_all
end
end Go.Proofs.Ytgfchgnebpogjaa
