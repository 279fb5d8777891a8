/- Plain: both ways to a shortest sentence come to the same. No program here. · Plain: what symbols stand for, between two places of an input; a chart is right when it says just what is derived. No program here. -/
import Derived.Test.YtklhjaohnimmnaaDoorQ3
namespace Go.Proofs.YtklhjaohnimmnaaDoor
set_option linter.unusedVariables false
set_option linter.unusedSimpArgs false

section
variable {ps : List Pr} {N : Nat}

/-- Left sides and names are below N. -/
def Fits (N : Nat) (ps : List Pr) : Prop := ∀ p ∈ ps, p.1.toNat < N ∧ ∀ s ∈ p.2.1, s < 0 → (-1 - s).toNat < N

theorem cat_of_len {x : List Int} (hd : ∀ X, X < N → 0 ≤ nth x X → ∃ l, Der ps X l ∧ nth x X = min (l.length : Int) 1000000) : ∀ (r : List Int), (∀ s ∈ r, s < 0 → (-1 - s).toNat < N) → (∀ s ∈ r, 0 ≤ symL x s) → ∃ l, Cat (Der ps) r l ∧ min (l.length : Int) 1000000 = min (sumS x r) 1000000
  | [], _, _ => ⟨[], rfl, by simp [sumS]⟩
  | s :: r, hN, h => by
    obtain ⟨b, hb, eb⟩ := cat_of_len hd r (fun t ht => hN t (List.mem_cons_of_mem _ ht)) (fun t ht => h t (List.mem_cons_of_mem _ ht))
    have hs := h s (by simp)
    have hn := sumS_nonneg r (fun t ht => h t (List.mem_cons_of_mem _ ht))
    by_cases hc : s < 0
    · have hy : symL x s = nth x (-1 - s).toNat := by unfold symL; rw [if_pos hc]
      rw [hy] at hs
      obtain ⟨a, ha, ea⟩ := hd _ (hN s (by simp) hc) hs
      refine ⟨a ++ b, ⟨a, b, rfl, by rw [if_pos hc]; exact ha, hb⟩, ?_⟩
      simp only [sumS, List.length_append]
      omega
    · have hy : symL x s = 1 := by unfold symL; rw [if_neg hc]
      refine ⟨[s] ++ b, ⟨[s], b, rfl, by rw [if_neg hc], hb⟩, ?_⟩
      simp only [sumS, List.length_append, List.length_singleton]
      omega

theorem isShort_of {n : Nat} (hf : Fits N ps) (h : (passF stepS 0 ps (rounds stepS ps n (x0 N))).2 = false) : IsShort ps (rounds stepS ps n (x0 N)) := by
  refine ⟨fun p hp => ?_, ?_⟩
  · obtain ⟨k, hk, e⟩ := List.getElem_of_mem hp
    have h1 := pass_fixed stepS_same ps 0 _ h k p (by rw [List.getElem?_eq_getElem hk, e])
    unfold stepS at h1
    split at h1
    · assumption
    · cases h1
  · have := rounds_keep (step := stepS) (ps := ps) (Q := fun x : List Int => x.length = N ∧ ∀ X, X < N → 0 ≤ nth x X → ∃ l, Der ps X l ∧ nth x X = min (l.length : Int) 1000000) (fun k p y hk hy => by
      have hp := List.mem_of_getElem? hk
      refine ⟨by rw [step_len]; exact hy.1, ?_⟩
      unfold stepS
      split
      · exact hy.2
      · rename_i hc
        have h0 : 0 ≤ lenF y 0 p.2.1 := by omega
        have hpos := lenF_pos h0
        obtain ⟨l, hl, el⟩ := cat_of_len hy.2 _ (hf p hp).2 hpos
        intro X hXN hX
        rw [nth_set (by rw [hy.1]; exact (hf p hp).1)] at hX ⊢
        split
        · rename_i e
          subst e
          refine ⟨l, Der.mk ps hp hl, ?_⟩
          rw [lenF_sum p.2.1 0 (by omega) (by omega) hpos]; omega
        · rename_i e
          rw [if_neg e] at hX
          exact hy.2 X hXN hX) (x := x0 N) ⟨by simp [x0], fun X hXN hX => by
        unfold nth x0 at hX
        rw [List.getD_eq_getElem?_getD, List.getElem?_replicate, if_pos hXN] at hX
        simp at hX⟩ n
    exact fun X hX => this.2 X (by rw [this.1] at hX; exact hX)

theorem Cat.bound {R : Nat → List Int → Prop} : ∀ (r l : List Int), Cat R r l → Cat (fun X a => R X a ∧ a.length ≤ l.length) r l
  | [], _, h => h
  | s :: r, l, ⟨a, b, e, h1, h2⟩ => by
    subst e
    refine ⟨a, b, rfl, ?_, Cat.mono (fun X c hc => ⟨hc.1, by have := hc.2; rw [List.length_append]; omega⟩) _ _ (Cat.bound r b h2)⟩
    by_cases hs : s < 0
    · rw [if_pos hs] at h1 ⊢; exact ⟨h1, by rw [List.length_append]; omega⟩
    · rw [if_neg hs] at h1 ⊢; exact h1

/-! ### the program's -/
/-- b is the first of the shortest of X. -/
def Least (ps : List Pr) (x : List Int) (X : Nat) (b : List Int) : Prop := Der ps X b ∧ (b.length : Int) = nth x X ∧ ∀ l, Der ps X l → (l.length : Int) = nth x X → le b l
def Good (ps : List Pr) (x : List Int) (st : Sn) (s : Int) : Prop := ∀ X, X < x.length → 0 ≤ nth x X → nth x X ≤ s → ∃ b, sn st X = some b ∧ Least ps x X b
def HadN (ps : List Pr) (x : List Int) (st : Sn) (s : Int) : Prop := ∀ X b, sn st X = some b → Der ps X b ∧ (b.length : Int) = nth x X ∧ nth x X ≤ s

theorem sum_of_cat {x : List Int} : ∀ (r l : List Int), Cat (fun X a => (a.length : Int) = nth x X) r l → sumS x r = l.length
  | [], l, h => by rw [show l = [] from h]; rfl
  | s :: r, l, ⟨a, b, e, h1, h2⟩ => by
    have i := sum_of_cat r b h2
    subst e
    simp only [sumS, List.length_append]
    by_cases hs : s < 0
    · rw [if_pos hs] at h1
      have hy : symL x s = nth x (-1 - s).toNat := by unfold symL; rw [if_pos hs]
      omega
    · rw [if_neg hs] at h1
      have hy : symL x s = 1 := by unfold symL; rw [if_neg hs]
      subst h1; simp; omega

theorem stepN_had {x : List Int} {st : Sn} {s : Int} (hx : IsShort ps x) (hf : Fits N ps) (hl : st.length = N) (h : HadN ps x st s) {i : Nat} {p : Pr} (hp : p ∈ ps) (hs : s < 1000000) : HadN ps x (stepN x s i p st).1 s := by
  have key : ∀ l, ¬ (nth x p.1.toNat ≠ s ∨ lenF x 0 p.2.1 ≠ s) → sentF st p.2.1 = some l → HadN ps x (st.set p.1.toNat (some l)) s := by
    intro l hc hl2 X b hb
    rw [sn_set (by rw [hl]; exact (hf p hp).1)] at hb
    split at hb
    · rename_i e
      subst e
      simp at hb
      subst hb
      have h1 : nth x p.1.toNat = s := by omega
      have h2 : lenF x 0 p.2.1 = s := by omega
      have hc1 := sentF_cat (R := fun X a => (Der ps X a ∧ (a.length : Int) = nth x X)) (fun X a q => ⟨(h X a q).1, (h X a q).2.1⟩) _ _ hl2
      have hc2 := sum_of_cat _ _ (Cat.mono (fun X a q => q.2) _ _ hc1)
      have hd := Der.mk ps hp (Cat.mono (fun X a q => q.1) _ _ hc1)
      have h0 := (isShort_le ps hx _ _ _ hd.choose_spec).1
      have hpos := lenF_pos (x := x) (r := p.2.1) (by omega)
      have hsum := lenF_sum p.2.1 0 (by omega) (by omega) hpos
      exact ⟨hd, by omega, by omega⟩
    · exact h X b hb
  unfold stepN
  split
  · exact h
  · rename_i hc
    split
    · exact h
    · rename_i l hl2
      split
      · exact key l hc hl2
      · split
        · exact key l hc hl2
        · exact h

theorem stepN_keeps {x : List Int} {st : Sn} {s : Int} (hf : Fits N ps) (hl : st.length = N) {i : Nat} {p : Pr} (hp : p ∈ ps) (X : Nat) (hX : nth x X ≠ s) : sn (stepN x s i p st).1 X = sn st X := by
  have key : ∀ l, ¬ (nth x p.1.toNat ≠ s ∨ lenF x 0 p.2.1 ≠ s) → sn (st.set p.1.toNat (some l)) X = sn st X := by
    intro l hc
    rw [sn_set (by rw [hl]; exact (hf p hp).1), if_neg (fun e => by subst e; omega)]
  unfold stepN
  split
  · rfl
  · rename_i hc
    split
    · rfl
    · split
      · exact key _ hc
      · split
        · exact key _ hc
        · rfl

theorem good_next {x : List Int} {st : Sn} {s : Int} (hx : IsShort ps x) (hf : Fits N ps) (hl : st.length = N) (hxl : x.length = N) (h0 : 0 ≤ s) (h1 : s < 1000000) (hg : Good ps x st (s - 1)) (hh : HadN ps x st s) (hfix : ∀ k p, ps[k]? = some p → (stepN x s k p st).2 = false) : Good ps x st s := by
  have C : ∀ (h : Nat) (X : Nat) (l : List Int), DerH ps h X l → (l.length : Int) = nth x X → nth x X ≤ s → ∃ b, sn st X = some b ∧ le b l := by
    intro h
    induction h with
    | zero => intro X l hd; exact hd.elim
    | succ h ih =>
      intro X l hd hlen hXs
      by_cases hlt : nth x X ≤ s - 1
      · obtain ⟨b, hb, hb1, hb2, hb3⟩ := hg X (by obtain ⟨p, hp, e, _⟩ := hd; rw [hxl, ← e]; exact (hf p hp).1) (by omega) hlt
        exact ⟨b, hb, hb3 l ⟨_, hd⟩ hlen⟩
      · obtain ⟨p, hp, e, hc⟩ := hd
        subst e
        obtain ⟨i1, i2⟩ := lenF_cat (isShort_le ps hx h) _ _ hc
        have hsum := lenF_sum p.2.1 0 (by omega) (by omega) i1
        have hfx := hx.fix p hp
        have hnn := sumS_nonneg p.2.1 i1
        have htight : (l.length : Int) ≤ sumS x p.2.1 := by omega
        have hct := Cat.bound _ _ (cat_tight (isShort_le ps hx h) _ _ hc htight)
        obtain ⟨b', hb', hle⟩ := cat_sent (st := st) (fun X a (q : (DerH ps h X a ∧ (a.length : Int) = nth x X) ∧ a.length ≤ l.length) => ih X a q.1.1 q.1.2 (by have := q.2; have := q.1.2; omega)) _ _ hct
        obtain ⟨k, hk, ek⟩ := List.getElem_of_mem hp
        have hf1 := hfix k p (by rw [List.getElem?_eq_getElem hk, ek])
        unfold stepN at hf1
        rw [if_neg (by omega), hb'] at hf1
        simp only at hf1
        cases hs : sn st p.1.toNat with
        | none => rw [hs] at hf1; simp at hf1
        | some b =>
          rw [hs] at hf1
          simp only at hf1
          split at hf1
          · simp at hf1
          · rename_i hn
            have hbl := (hh _ _ hs).2.1
            exact ⟨b, rfl, le.trans ⟨by have := hle.1; omega, by simpa using hn⟩ hle⟩
  intro X hXN hX0 hXs
  obtain ⟨l, hl1, hl2⟩ := hx.der X hXN hX0
  have hlen : (l.length : Int) = nth x X := by omega
  obtain ⟨h, hh1⟩ := hl1
  obtain ⟨b, hb, hble⟩ := C h X l hh1 hlen hXs
  refine ⟨b, hb, (hh X b hb).1, (hh X b hb).2.1, fun l' hl' hlen' => ?_⟩
  obtain ⟨h', hh'⟩ := hl'
  obtain ⟨b2, hb2, hle2⟩ := C h' X l' hh' hlen' hXs
  rw [hb] at hb2
  cases hb2
  exact hle2

/-! ### the document's -/
def sle (b l : List Int) : Prop := b.length < l.length ∨ le b l
theorem sle.app {a b c d : List Int} (h : sle a b) (k : sle c d) : sle (a ++ c) (b ++ d) := by
  rcases h with h | h <;> rcases k with k | k
  · left; simp only [List.length_append]; omega
  · left; simp only [List.length_append]; have := k.1; omega
  · left; simp only [List.length_append]; have := h.1; omega
  · exact .inr (h.app k)
theorem sle.trans {a b c : List Int} (h : sle a b) (k : sle b c) : sle a c := by
  rcases h with h | h <;> rcases k with k | k
  · left; omega
  · left; have := k.1; omega
  · left; have := h.1; omega
  · exact .inr (h.trans k)
theorem earl_sle {a b : List Int} (h : earl a b = false) : sle b a := by
  unfold earl at h
  split at h
  · rename_i e; exact .inr ⟨e.symm, h⟩
  · rename_i e
    simp at h
    left; omega
theorem cat_sle {st : Sn} {R : Nat → List Int → Prop} (hR : ∀ X a, R X a → ∃ b, sn st X = some b ∧ sle b a) : ∀ (r l : List Int), Cat R r l → ∃ b, sentF st r = some b ∧ sle b l
  | [], l, h => ⟨[], rfl, by rw [show l = [] from h]; exact .inr (le.refl _)⟩
  | s :: r, l, ⟨a, b, e, h1, h2⟩ => by
    obtain ⟨b2, e2, l2⟩ := cat_sle hR r b h2
    subst e
    by_cases hs : s < 0
    · rw [if_pos hs] at h1
      obtain ⟨b1, e1, l1⟩ := hR _ _ h1
      exact ⟨b1 ++ b2, by simp only [sentF]; rw [if_pos hs, e1, e2], l1.app l2⟩
    · rw [if_neg hs] at h1
      subst h1
      exact ⟨[s] ++ b2, by simp only [sentF]; rw [if_neg hs, e2], sle.app (.inr (le.refl [s])) l2⟩
def HadD (ps : List Pr) (st : Sn) : Prop := ∀ X b, sn st X = some b → Der ps X b ∧ b.length ≤ 1000
theorem stepD_had {st : Sn} (hf : Fits N ps) (hl : st.length = N) (h : HadD ps st) {i : Nat} {p : Pr} (hp : p ∈ ps) : HadD ps (stepD i p st).1 := by
  have key : ∀ l, ¬ 1000 < l.length → sentF st p.2.1 = some l → HadD ps (st.set p.1.toNat (some l)) := by
    intro l hc hl2 X b hb
    rw [sn_set (by rw [hl]; exact (hf p hp).1)] at hb
    split at hb
    · rename_i e
      subst e
      simp at hb
      subst hb
      exact ⟨Der.mk ps hp (sentF_cat (fun X a q => (h X a q).1) _ _ hl2), by omega⟩
    · exact h X b hb
  unfold stepD
  split
  · exact h
  · rename_i l hl2
    split
    · exact h
    · rename_i hc
      split
      · exact key l hc hl2
      · split
        · exact key l hc hl2
        · exact h
theorem best_all {st : Sn} (hfix : ∀ k p, ps[k]? = some p → (stepD k p st).2 = false) : ∀ (h : Nat) (X : Nat) (l : List Int), DerH ps h X l → l.length ≤ 1000 → ∃ b, sn st X = some b ∧ sle b l
  | 0, _, _, hd, _ => hd.elim
  | h + 1, X, l, ⟨p, hp, e, hc⟩, hl => by
    subst e
    obtain ⟨b', hb', hle⟩ := cat_sle (st := st) (fun X a (q : DerH ps h X a ∧ a.length ≤ l.length) => best_all hfix h X a q.1 (by omega)) _ _ (Cat.bound _ _ hc)
    obtain ⟨k, hk, ek⟩ := List.getElem_of_mem hp
    have hf1 := hfix k p (by rw [List.getElem?_eq_getElem hk, ek])
    have hbl : b'.length ≤ l.length := by rcases hle with q | q; omega; exact Nat.le_of_eq q.1
    unfold stepD at hf1
    rw [hb'] at hf1
    simp only at hf1
    rw [if_neg (by omega)] at hf1
    cases hs : sn st p.1.toNat with
    | none => rw [hs] at hf1; simp at hf1
    | some b =>
      rw [hs] at hf1
      simp only at hf1
      split at hf1
      · simp at hf1
      · rename_i hn
        exact ⟨b, rfl, (earl_sle (by simpa using hn)).trans hle⟩

/-- Both come to the same. -/
theorem same_none {x : List Int} {st : Sn} (hx : IsShort ps x) (hh : HadD ps st) {n : Nat} (h : nth x n < 0 ∨ 1000 < nth x n) : sn st n = none := by
  cases hs : sn st n with
  | none => rfl
  | some b =>
    obtain ⟨h1, h2⟩ := hh n b hs
    have := isShort_le ps hx _ _ _ h1.choose_spec
    omega
theorem same_some {x : List Int} {st sp : Sn} (hx : IsShort ps x) (hh : HadD ps st) (hfix : ∀ k p, ps[k]? = some p → (stepD k p st).2 = false) {n : Nat} (hn : n < x.length) (h0 : 0 ≤ nth x n) (h1 : nth x n ≤ 1000) (hg : Good ps x sp (nth x n)) : ∃ b, sn sp n = some b ∧ sn st n = some b := by
  obtain ⟨b, hb, ⟨h, hd⟩, hb2, hb3⟩ := hg n hn h0 (Int.le_refl _)
  obtain ⟨r, hr, hrs⟩ := best_all hfix h n b hd (by omega)
  obtain ⟨hr1, hr2⟩ := hh n r hr
  have hrl := isShort_le ps hx _ _ _ hr1.choose_spec
  have hle : le r b := by
    rcases hrs with q | q
    · omega
    · exact q
  have hle2 := hb3 r hr1 (by have := hle.1; omega)
  have e := lexlt_tri r b hle.1 hle2.2 hle.2
  subst e
  exact ⟨r, hb, hr⟩
end
end Go.Proofs.YtklhjaohnimmnaaDoor
namespace Go.Proofs.YtklhjaohnimmnaaDoor
set_option linter.unusedVariables false
set_option linter.unusedSimpArgs false

/-- A chart: of a name, from where, to where. -/
abbrev Ch := Nat → Nat → Nat → Bool
/-- A symbol stands for what lies between f and t. -/
def Sy (m : Ch) (inp : List Int) (s : Int) (f t : Nat) : Prop := if s < 0 then m (-1 - s).toNat f t = true else t = f + 1 ∧ nth inp f = s
/-- Symbols, one behind the other. -/
def Rch (m : Ch) (inp : List Int) : List Int → Nat → Nat → Prop
  | [], f, t => f = t
  | s :: r, f, t => ∃ j, f ≤ j ∧ j ≤ t ∧ Sy m inp s f j ∧ Rch m inp r j t

theorem Rch.le {m : Ch} {inp : List Int} : ∀ {r : List Int} {f t : Nat}, Rch m inp r f t → f ≤ t
  | [], _, _, h => Nat.le_of_eq h
  | _ :: _, _, _, ⟨_, h1, h2, _, _⟩ => Nat.le_trans h1 h2
theorem Rch.snoc {m : Ch} {inp : List Int} {s : Int} : ∀ {r : List Int} {f t : Nat}, Rch m inp (r ++ [s]) f t ↔ ∃ j, f ≤ j ∧ j ≤ t ∧ Rch m inp r f j ∧ Sy m inp s j t
  | [], f, t => by
    constructor
    · rintro ⟨j, h1, h2, h3, h4⟩
      obtain rfl : j = t := h4
      exact ⟨f, Nat.le_refl _, h1, rfl, h3⟩
    · rintro ⟨j, h1, h2, h3, h4⟩
      obtain rfl : f = j := h3
      exact ⟨t, h2, Nat.le_refl _, h4, rfl⟩
  | a :: r, f, t => by
    constructor
    · rintro ⟨j, h1, h2, h3, h4⟩
      obtain ⟨k, k1, k2, k3, k4⟩ := Rch.snoc.1 h4
      exact ⟨k, Nat.le_trans h1 k1, k2, ⟨j, h1, k1, h3, k3⟩, k4⟩
    · rintro ⟨k, k1, k2, ⟨j, h1, h2, h3, h4⟩, k4⟩
      exact ⟨j, h1, Nat.le_trans h2 k2, h3, Rch.snoc.2 ⟨k, h2, k2, h4, k4⟩⟩

/-- What lies between two places. -/
def sub (inp : List Int) (f t : Nat) : List Int := (inp.drop f).take (t - f)
theorem sub_app {inp : List Int} {f j t : Nat} (h1 : f ≤ j) (h2 : j ≤ t) (h3 : t ≤ inp.length) : sub inp f t = sub inp f j ++ sub inp j t := by
  unfold sub
  rw [show t - f = (j - f) + (t - j) by omega, List.take_add, List.drop_drop, show f + (j - f) = j by omega]
theorem sub_nil {inp : List Int} {f : Nat} : sub inp f f = [] := by unfold sub; simp
theorem sub_one {inp : List Int} {f : Nat} (h : f < inp.length) : sub inp f (f + 1) = [nth inp f] := by
  unfold sub
  rw [show f + 1 - f = 1 by omega, List.drop_eq_getElem_cons h, nth_get h]; rfl
theorem sub_len {inp : List Int} {f t : Nat} (h1 : f ≤ t) (h2 : t ≤ inp.length) : (sub inp f t).length = t - f := by
  unfold sub; rw [List.length_take, List.length_drop]; omega
theorem sub_all {inp : List Int} : sub inp 0 inp.length = inp := by unfold sub; simp

section
variable {ps : List Pr} {N : Nat} {inp : List Int}
/-- All that the chart says is so. -/
def ChOk (ps : List Pr) (N : Nat) (inp : List Int) (m : Ch) : Prop := ∀ X f t, X < N → f ≤ t → t ≤ inp.length → m X f t = true → Der ps X (sub inp f t)
/-- All that is so, between f and t, the chart says. -/
def ChAll (ps : List Pr) (N : Nat) (inp : List Int) (m : Ch) (f t : Nat) : Prop := ∀ X, X < N → Der ps X (sub inp f t) → m X f t = true

theorem rch_cat {m : Ch} (hm : ChOk ps N inp m) : ∀ {r : List Int} {f t : Nat}, (∀ s ∈ r, s < 0 → (-1 - s).toNat < N) → t ≤ inp.length → Rch m inp r f t → Cat (Der ps) r (sub inp f t)
  | [], f, t, _, _, h => by
    obtain rfl : f = t := h
    exact sub_nil
  | s :: r, f, t, hN, ht, ⟨j, h1, h2, h3, h4⟩ => by
    refine ⟨sub inp f j, sub inp j t, sub_app h1 h2 ht, ?_, rch_cat hm (fun a ha => hN a (List.mem_cons_of_mem _ ha)) ht h4⟩
    unfold Sy at h3
    by_cases hs : s < 0
    · rw [if_pos hs] at h3 ⊢
      exact hm _ _ _ (hN s (by simp) hs) h1 (by omega) h3
    · rw [if_neg hs] at h3 ⊢
      obtain ⟨rfl, rfl⟩ := h3
      exact sub_one (by omega)
theorem split_sub : ∀ {a b : List Int} {f t : Nat}, f ≤ t → t ≤ inp.length → sub inp f t = a ++ b → f + a.length ≤ t ∧ a = sub inp f (f + a.length) ∧ b = sub inp (f + a.length) t := fun {a b f t} h1 h2 h => by
  have hl := congrArg List.length h
  rw [sub_len h1 h2, List.length_append] at hl
  have h3 : f + a.length ≤ t := by omega
  have h4 := sub_app (inp := inp) (f := f) (j := f + a.length) (t := t) (by omega) h3 h2
  rw [h] at h4
  have h5 := List.append_inj h4 (by rw [sub_len (by omega) (by omega)]; omega)
  exact ⟨h3, h5.1, h5.2⟩
theorem cat_rch {m : Ch} {R : Nat → List Int → Prop} {F T : Nat} (hR : ∀ X f t, X < N → F ≤ f → f ≤ t → t ≤ T → R X (sub inp f t) → m X f t = true) (hT : T ≤ inp.length) : ∀ {r : List Int} {f t : Nat}, (∀ s ∈ r, s < 0 → (-1 - s).toNat < N) → F ≤ f → f ≤ t → t ≤ T → Cat R r (sub inp f t) → Rch m inp r f t
  | [], f, t, _, _, h1, h2, h => by
    have h : sub inp f t = [] := h
    have := congrArg List.length h
    rw [sub_len h1 (by omega)] at this
    show f = t
    simp at this
    omega
  | s :: r, f, t, hN, h0, h1, h2, ⟨a, b, e, h3, h4⟩ => by
    obtain ⟨q1, q2, q3⟩ := split_sub h1 (by omega) e
    refine ⟨f + a.length, by omega, q1, ?_, cat_rch hR hT (fun a ha => hN a (List.mem_cons_of_mem _ ha)) (by omega) q1 h2 (by rw [← q3]; exact h4)⟩
    unfold Sy
    by_cases hs : s < 0
    · rw [if_pos hs] at h3 ⊢
      exact hR _ _ _ (hN s (by simp) hs) h0 (by omega) (by omega) (by rw [← q2]; exact h3)
    · rw [if_neg hs] at h3 ⊢
      subst h3
      simp only [List.length_singleton] at q1 q2 ⊢
      rw [sub_one (by omega)] at q2
      simp only [List.cons.injEq, and_true] at q2
      exact ⟨trivial, q2.symm⟩

/-- Where nothing is new any more and all shorter is there, all is there. -/
theorem ch_settled {m : Ch} (hf : Fits N ps) {f t : Nat} (h1 : f ≤ t) (h2 : t ≤ inp.length) (hin : ∀ f' t', f ≤ f' → f' ≤ t' → t' ≤ t → (f' ≠ f ∨ t' ≠ t) → ChAll ps N inp m f' t')
    (hfix : ∀ p ∈ ps, Rch m inp p.2.1 f t → m p.1.toNat f t = true) : ChAll ps N inp m f t := by
  have C : ∀ (h : Nat) (X : Nat), DerH ps h X (sub inp f t) → m X f t = true := by
    intro h
    induction h with
    | zero => intro X hd; exact hd.elim
    | succ h ih =>
      rintro X ⟨p, hp, e, hc⟩
      subst e
      refine hfix p hp (cat_rch (R := DerH ps h) (F := f) (T := t) (N := N) (fun X f' t' hX a1 a2 a3 hd => ?_) h2 (hf p hp).2 (Nat.le_refl _) h1 (Nat.le_refl _) hc)
      by_cases e : f' = f ∧ t' = t
      · obtain ⟨rfl, rfl⟩ := e
        exact ih X hd
      · exact hin f' t' a1 a2 a3 (by omega) X hX ⟨h, hd⟩
  rintro X _ ⟨h, hd⟩
  exact C h X hd

/-- A truth more. -/
def upd (m : Ch) (X f t : Nat) : Ch := fun Y a b => if Y = X ∧ a = f ∧ b = t then true else m Y a b
theorem upd_at {m : Ch} {X f t : Nat} : upd m X f t X f t = true := by simp [upd]
theorem upd_mono {m : Ch} {X f t Y a b : Nat} (h : m Y a b = true) : upd m X f t Y a b = true := by unfold upd; split <;> simp [h]
theorem upd_off {m : Ch} {X f t Y a b : Nat} (h : a ≠ f ∨ b ≠ t) : upd m X f t Y a b = m Y a b := by
  unfold upd
  rw [if_neg (by omega)]
theorem upd_same {m : Ch} {X f t : Nat} (h : m X f t = true) : upd m X f t = m := by
  funext Y a b
  unfold upd
  split
  · rename_i e; obtain ⟨rfl, rfl, rfl⟩ := e; exact h.symm
  · rfl
theorem ChOk.upd {m : Ch} (hm : ChOk ps N inp m) {p : Pr} (hp : p ∈ ps) (hf : Fits N ps) {f t : Nat} (ht : t ≤ inp.length) (h : Rch m inp p.2.1 f t) : ChOk ps N inp (upd m p.1.toNat f t) := by
  intro X a b hX h1 h2 h3
  unfold Go.Proofs.YtklhjaohnimmnaaDoor.upd at h3
  split at h3
  · rename_i e
    obtain ⟨rfl, rfl, rfl⟩ := e
    exact Der.mk ps hp (rch_cat hm (hf p hp).2 ht h)
  · exact hm X a b hX h1 h2 h3
/-- How many truths are not there yet, between f and t. -/
def muC (N : Nat) (m : Ch) (f t : Nat) : Nat := ((List.range N).filter fun X => !m X f t).length
theorem muC_upd {m : Ch} {X f t : Nat} (hX : X < N) (h : m X f t = false) : muC N (upd m X f t) f t < muC N m f t := by
  unfold muC
  refine filter_lt (List.range N) (fun a _ ha => ?_) ⟨X, List.mem_range.2 hX, by rw [h]; rfl, by rw [upd_at]; rfl⟩
  cases hm : m a f t
  · rfl
  · rw [upd_mono hm] at ha; exact ha
end
end Go.Proofs.YtklhjaohnimmnaaDoor
