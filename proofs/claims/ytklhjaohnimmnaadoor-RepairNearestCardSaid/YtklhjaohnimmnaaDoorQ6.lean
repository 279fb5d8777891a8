/- Plain: the mender's chart: rows of bests are sound and as good as can be. No program here. · Plain: the mended sentence: what the best of Start says. No program here. -/
import Derived.Test.YtklhjaohnimmnaaDoorQ5
namespace Go.Proofs.YtklhjaohnimmnaaDoor
set_option linter.unusedVariables false
set_option linter.unusedSimpArgs false

section
variable {put leave : Int → Int}
theorem Al.split {a b : List Int} {K : Int} (h : Al put leave a b K) : ∀ {x y : List Int}, b = x ++ y → ∃ a1 a2 K1 K2, a = a1 ++ a2 ∧ Al put leave a1 x K1 ∧ Al put leave a2 y K2 ∧ K = K1 + K2 := by
  induction h with
  | nil =>
    intro x y e
    obtain ⟨rfl, rfl⟩ := List.nil_eq_append_iff.1 e
    exact ⟨[], [], 0, 0, rfl, .nil, .nil, rfl⟩
  | @put t a b c h ih =>
    intro x y e
    cases x with
    | nil => rw [List.nil_append] at e; subst e; exact ⟨[], a, 0, c + put t, rfl, .nil, .put t h, by omega⟩
    | cons x0 x =>
      simp only [List.cons_append, List.cons.injEq] at e
      obtain ⟨rfl, e⟩ := e
      obtain ⟨a1, a2, K1, K2, q1, q2, q3, q4⟩ := ih e
      exact ⟨a1, a2, K1 + put t, K2, q1, .put t q2, q3, by omega⟩
  | @leave f a b c h ih =>
    intro x y e
    obtain ⟨a1, a2, K1, K2, q1, q2, q3, q4⟩ := ih e
    exact ⟨f :: a1, a2, K1 + leave f, K2, by rw [q1]; rfl, .leave f q2, q3, by omega⟩
  | @same z a b c h ih =>
    intro x y e
    cases x with
    | nil => rw [List.nil_append] at e; subst e; exact ⟨[], z :: a, 0, c, rfl, .nil, .same z h, by omega⟩
    | cons x0 x =>
      simp only [List.cons_append, List.cons.injEq] at e
      obtain ⟨rfl, e⟩ := e
      obtain ⟨a1, a2, K1, K2, q1, q2, q3, q4⟩ := ih e
      exact ⟨z :: a1, a2, K1, K2, by rw [q1]; rfl, .same z q2, q3, q4⟩
theorem Al.nonneg (hp : ∀ t, 0 ≤ put t) (hl : ∀ t, 0 ≤ leave t) {a b : List Int} {K : Int} (h : Al put leave a b K) : 0 ≤ K := by
  induction h with
  | nil => exact Int.le_refl 0
  | put t _ ih => have := hp t; omega
  | leave t _ ih => have := hl t; omega
  | same _ _ ih => exact ih
theorem Al.any : ∀ (a b : List Int), ∃ K, Al put leave a b K
  | [], [] => ⟨0, .nil⟩
  | [], t :: b => by obtain ⟨K, h⟩ := Al.any [] b; exact ⟨_, .put t h⟩
  | f :: a, b => by obtain ⟨K, h⟩ := Al.any a b; exact ⟨_, .leave f h⟩
/-- All left out. -/
def lvS (leave : Int → Int) : List Int → Int
  | [] => 0
  | x :: l => lvS leave l + leave x
theorem lvS_app (a b : List Int) : lvS leave (a ++ b) = lvS leave a + lvS leave b := by
  induction a with
  | nil => simp [lvS]
  | cons x a ih => rw [List.cons_append, lvS, lvS, ih]; omega
theorem al_leave : ∀ (a : List Int), Al put leave a [] (lvS leave a)
  | [] => .nil
  | x :: a => .leave x (al_leave a)
theorem al_nil {a b : List Int} {K : Int} (h : Al put leave a b K) : b = [] → lvS leave a ≤ K := by
  induction h with
  | nil => intro _; exact Int.le_refl 0
  | put t _ ih => intro e; cases e
  | leave f _ ih => intro e; have := ih e; rw [lvS]; omega
  | same _ _ ih => intro e; cases e
theorem al_one {a b : List Int} {K t : Int} (h : Al put leave a b K) : b = [t] → lvS leave a + put t ≤ K ∨ (t ∈ a ∧ lvS leave a - leave t ≤ K) := by
  induction h with
  | nil => intro e; cases e
  | put x h ih =>
    intro e
    simp only [List.cons.injEq] at e
    obtain ⟨rfl, e⟩ := e
    have := al_nil h e
    exact .inl (by omega)
  | leave f h ih =>
    intro e
    rcases ih e with q | ⟨q1, q2⟩
    · exact .inl (by rw [lvS]; omega)
    · exact .inr ⟨by simp [q1], by rw [lvS]; omega⟩
  | same x h ih =>
    intro e
    simp only [List.cons.injEq] at e
    obtain ⟨rfl, e⟩ := e
    have := al_nil h e
    exact .inr ⟨by simp, by rw [lvS]; omega⟩
theorem al_term : ∀ {a : List Int} {t : Int}, t ∈ a → Al put leave a [t] (lvS leave a - leave t)
  | x :: a, t, h => by
    by_cases e : x = t
    · subst e
      have := Al.same (put := put) (leave := leave) x (al_leave a)
      rw [lvS, show lvS leave a + leave x - leave x = lvS leave a by omega]
      exact this
    · have h2 : t ∈ a := by rcases List.mem_cons.1 h with q | q; exact absurd q.symm e; exact q
      have := Al.leave (put := put) (leave := leave) x (al_term h2)
      rw [lvS, show lvS leave a + leave x - leave t = lvS leave a - leave t + leave x by omega]
      exact this
variable (put leave)
/-- The best for a terminal. -/
def termC (t : Int) (all : Int) (a : List Int) (c : Int) : Int := a.foldl (fun c x => if x = t then min c (all - leave x) else c) c
def termB (t : Int) (a : List Int) : Bs := some (termC leave t (lvS leave a) a (lvS leave a + put t), 1, [t])
variable {put leave}
theorem termC_eq {t all : Int} : ∀ (a : List Int) (c : Int), termC leave t all a c = if t ∈ a then min c (all - leave t) else c
  | [], c => by simp [termC]
  | x :: a, c => by
    have h := termC_eq (t := t) (all := all) a (if x = t then min c (all - leave x) else c)
    have h0 : termC leave t all (x :: a) c = termC leave t all a (if x = t then min c (all - leave x) else c) := rfl
    rw [h0, h]
    by_cases e : x = t
    · subst e
      rw [if_pos rfl, if_pos (by simp : x ∈ x :: a)]
      split <;> omega
    · rw [if_neg e]
      by_cases q : t ∈ a
      · rw [if_pos q, if_pos (by simp [q])]
      · rw [if_neg q, if_neg (by simp [q]; exact fun h => e h.symm)]
theorem term_snd (hp : ∀ t, 0 ≤ put t) (hl : ∀ t, 0 ≤ leave t) {t : Int} {a : List Int} (hb : lvS leave a + put t ≤ farC) : Snd put leave (fun s => s = [t]) a (termB put leave t a) := fun c n l e => by
  simp only [termB, Option.some.injEq, Prod.mk.injEq] at e
  obtain ⟨e1, e2, e3⟩ := e
  rw [termC_eq] at e1
  have hal := al_leave (put := put) (leave := leave) a
  have hput : Al put leave a [t] (lvS leave a + put t) := by
    have := hal.app put leave (Al.put (put := put) (leave := leave) t .nil)
    rw [List.append_nil, List.nil_append] at this
    rw [show lvS leave a + put t = 0 + put t + lvS leave a by omega]
    exact this
  have hn := hput.nonneg hp hl
  have htail : n = min (([t] : List Int).length : Int) farC ∧ l = if 1000 < n then [] else [t] := by
    subst e2 e3
    exact ⟨by unfold farC; rfl, by rw [if_neg (by omega)]⟩
  by_cases q : t ∈ a
  · rw [if_pos q] at e1
    have h2 := al_term (put := put) (leave := leave) q
    have h3 := h2.nonneg hp hl
    have h4 := hp t; have h5 := hl t
    exact ⟨[t], _, rfl, h2, h3, by omega, htail⟩
  · rw [if_neg q] at e1
    exact ⟨[t], _, rfl, hput, hn, by omega, htail⟩
theorem term_cmp {t K : Int} {a : List Int} (hp : ∀ t, 0 ≤ put t) (hl : ∀ t, 0 ≤ leave t) (h : Al put leave a [t] K) : Cmp (termB put leave t a) K [t] := by
  refine ⟨_, rfl, ?_⟩
  have h1 := al_one h rfl
  have hle : termC leave t (lvS leave a) a (lvS leave a + put t) ≤ K := by
    rw [termC_eq]
    rcases h1 with q | ⟨q1, q2⟩
    · split <;> omega
    · rw [if_pos q1]; omega
  by_cases e : termC leave t (lvS leave a) a (lvS leave a + put t) = K
  · exact .inr ⟨e, .inr ⟨rfl, le.refl _⟩⟩
  · exact .inl (by show termC leave t (lvS leave a) a (lvS leave a + put t) < K; omega)

/-! ### rows -/
/-- Bests of names: of which, from where, to where. -/
abbrev BCh := Nat → Nat → Nat → Bs
variable (put leave)
def symB (M : BCh) (inp : List Int) (s : Int) (f t : Nat) : Bs := if s < 0 then M (-1 - s).toNat f t else termB put leave s (sub inp f t)
def midB' (M : BCh) (inp : List Int) (f : Nat) (at_ : Nat → Bs) (s : Int) (k : Nat) : Bs := bestOf ((List.range (k + 1)).map fun mid => joinB (at_ mid) (symB put leave M inp s (f + mid) (f + k)))
def rowF (M : BCh) (inp : List Int) (f : Nat) : List Int → (Nat → Bs) → Nat → Bs
  | [], at_ => at_
  | s :: r, at_ => rowF M inp f r (midB' put leave M inp f at_ s)
def rwB (M : BCh) (inp : List Int) (right : List Int) (f t : Nat) : Bs :=
  match right with
  | [] => some (lvS leave (sub inp f t), 0, [])
  | s :: r => rowF put leave M inp f r (fun k => symB put leave M inp s f (f + k)) (t - f)
variable {put leave}
/-- A symbol's pieces. -/
def SyR (R : Nat → List Int → Prop) (s : Int) (l : List Int) : Prop := if s < 0 then R (-1 - s).toNat l else l = [s]
section
variable {M : BCh} {inp : List Int} {ps : List Pr} {N : Nat}
/-- All that the chart says is of what is derived. -/
def ChSnd (put leave : Int → Int) (ps : List Pr) (N : Nat) (inp : List Int) (M : BCh) : Prop := ∀ X f t, X < N → f ≤ t → t ≤ inp.length → Snd put leave (Der ps X) (sub inp f t) (M X f t)
theorem sym_snd (hp : ∀ t, 0 ≤ put t) (hl : ∀ t, 0 ≤ leave t) (hb : ∀ t f u, lvS leave (sub inp f u) + put t ≤ farC) (hM : ChSnd put leave ps N inp M) {s : Int} {f t : Nat} (hs : s < 0 → (-1 - s).toNat < N) (h1 : f ≤ t) (h2 : t ≤ inp.length) : Snd put leave (SyR (Der ps) s) (sub inp f t) (symB put leave M inp s f t) := by
  unfold symB
  by_cases q : s < 0
  · rw [if_pos q]
    exact (hM _ f t (hs q) h1 h2).mono fun l h => by unfold SyR; rw [if_pos q]; exact h
  · rw [if_neg q]
    exact (term_snd hp hl (hb s f t)).mono fun l h => by unfold SyR; rw [if_neg q]; exact h
theorem mid_snd {R0 : List Int → Prop} {at_ : Nat → Bs} {f T : Nat} (hp : ∀ t, 0 ≤ put t) (hl : ∀ t, 0 ≤ leave t) (hb : ∀ t f u, lvS leave (sub inp f u) + put t ≤ farC) (hM : ChSnd put leave ps N inp M) {s : Int} (hs : s < 0 → (-1 - s).toNat < N) (hT : f + T ≤ inp.length)
    (hat : ∀ k, k ≤ T → Snd put leave R0 (sub inp f (f + k)) (at_ k)) : ∀ k, k ≤ T → Snd put leave (fun l => ∃ a b, l = a ++ b ∧ R0 a ∧ SyR (Der ps) s b) (sub inp f (f + k)) (midB' put leave M inp f at_ s k) := fun k hk => by
  have hall : ∀ mid, mid ≤ k → Snd put leave (fun l => ∃ a b, l = a ++ b ∧ R0 a ∧ SyR (Der ps) s b) (sub inp f (f + k)) (joinB (at_ mid) (symB put leave M inp s (f + mid) (f + k))) := fun mid hm => by
    have := (hat mid (by omega)).join (sym_snd hp hl hb hM hs (f := f + mid) (t := f + k) (by omega) (by omega))
    rwa [← sub_app (by omega) (by omega) (by omega)] at this
  have hwf : ∀ x ∈ (List.range (k + 1)).map (fun mid => joinB (at_ mid) (symB put leave M inp s (f + mid) (f + k))), WfB x := fun x hx => by
    obtain ⟨mid, hm, rfl⟩ := List.mem_map.1 hx
    exact (hall mid (by have := List.mem_range.1 hm; omega)).wf
  unfold midB'
  rcases bestOf_in hwf with e | e
  · rw [e]; exact Snd.none _ _
  · obtain ⟨mid, hm, e2⟩ := List.mem_map.1 e
    rw [← e2]
    exact hall mid (by have := List.mem_range.1 hm; omega)
theorem rowF_snd (hp : ∀ t, 0 ≤ put t) (hl : ∀ t, 0 ≤ leave t) (hb : ∀ t f u, lvS leave (sub inp f u) + put t ≤ farC) (hM : ChSnd put leave ps N inp M) {f T : Nat} (hT : f + T ≤ inp.length) : ∀ (r : List Int) (R0 : List Int → Prop) (at_ : Nat → Bs), (∀ s ∈ r, s < 0 → (-1 - s).toNat < N) → (∀ k, k ≤ T → Snd put leave R0 (sub inp f (f + k)) (at_ k)) →
    ∀ k, k ≤ T → Snd put leave (fun l => ∃ a b, l = a ++ b ∧ R0 a ∧ Cat (Der ps) r b) (sub inp f (f + k)) (rowF put leave M inp f r at_ k)
  | [], R0, at_, _, hat, k, hk => (hat k hk).mono fun l h => ⟨l, [], by simp, h, rfl⟩
  | s :: r, R0, at_, hs, hat, k, hk => by
    have h1 := mid_snd hp hl hb hM (hs s (by simp)) hT hat
    exact (rowF_snd hp hl hb hM hT r _ _ (fun x hx => hs x (by simp [hx])) h1 k hk).mono fun l ⟨a, b, e, ⟨c, d, e2, h2, h3⟩, h4⟩ => ⟨c, d ++ b, by rw [e, e2, List.append_assoc], h2, d, b, rfl, h3, h4⟩
theorem row_snd (hp : ∀ t, 0 ≤ put t) (hl : ∀ t, 0 ≤ leave t) (hb : ∀ t f u, lvS leave (sub inp f u) + put t ≤ farC) (hM : ChSnd put leave ps N inp M) {f t : Nat} (h1 : f ≤ t) (h2 : t ≤ inp.length) {r : List Int} (hs : ∀ s ∈ r, s < 0 → (-1 - s).toNat < N) :
    Snd put leave (Cat (Der ps) r) (sub inp f t) (rwB put leave M inp r f t) := by
  cases r with
  | nil =>
    intro c n l e
    simp only [rwB, Option.some.injEq, Prod.mk.injEq] at e
    obtain ⟨e1, e2, e3⟩ := e
    have h := al_leave (put := put) (leave := leave) (sub inp f t)
    have h3 := hb 0 f t; have h4 := hp 0
    exact ⟨[], _, rfl, h, h.nonneg hp hl, by omega, by subst e2; rfl, by rw [← e2, ← e3]; rfl⟩
  | cons s r =>
    have h3 := rowF_snd hp hl hb hM (f := f) (T := t - f) (by omega) r (SyR (Der ps) s) (fun k => symB put leave M inp s f (f + k)) (fun x hx => hs x (by simp [hx])) (fun k hk => sym_snd hp hl hb hM (hs s (by simp)) (by omega) (by omega)) (t - f) (Nat.le_refl _)
    rw [show f + (t - f) = t by omega] at h3
    exact h3.mono fun l ⟨a, b, e, h4, h5⟩ => ⟨a, b, e, h4, h5⟩
/-- Between F and T the chart is as good as whatever is of R. -/
def ChCmp (put leave : Int → Int) (N : Nat) (inp : List Int) (M : BCh) (R : Nat → List Int → Prop) (F T : Nat) : Prop := ∀ X f t s K, X < N → F ≤ f → f ≤ t → t ≤ T → R X s → Al put leave (sub inp f t) s K → s.length ≤ 1000 → K < farC → Cmp (M X f t) K s
theorem sym_cmp (hp : ∀ t, 0 ≤ put t) (hl : ∀ t, 0 ≤ leave t) {R : Nat → List Int → Prop} {F T : Nat} (hM : ChCmp put leave N inp M R F T) {s : Int} (hs : s < 0 → (-1 - s).toNat < N) {f t : Nat} {l : List Int} {K : Int} (h0 : F ≤ f) (h1 : f ≤ t) (h2 : t ≤ T) (h : SyR R s l) (ha : Al put leave (sub inp f t) l K) (hl2 : l.length ≤ 1000) (hK : K < farC) : Cmp (symB put leave M inp s f t) K l := by
  unfold symB SyR at *
  by_cases q : s < 0
  · rw [if_pos q] at h ⊢
    exact hM _ f t l K (hs q) h0 h1 h2 h ha hl2 hK
  · rw [if_neg q] at h ⊢
    subst h
    exact term_cmp hp hl ha
theorem mid_cmp {R0 : List Int → Prop} {R : Nat → List Int → Prop} {at_ : Nat → Bs} {f T : Nat} (hp : ∀ t, 0 ≤ put t) (hl : ∀ t, 0 ≤ leave t) (hM : ChCmp put leave N inp M R f (f + T)) {s : Int} (hs : s < 0 → (-1 - s).toNat < N) (hT : f + T ≤ inp.length)
    (hwf : ∀ k mid, mid ≤ k → k ≤ T → WfB (joinB (at_ mid) (symB put leave M inp s (f + mid) (f + k))))
    (hat : ∀ k, k ≤ T → ∀ l K, R0 l → Al put leave (sub inp f (f + k)) l K → l.length ≤ 1000 → K < farC → Cmp (at_ k) K l) :
    ∀ k, k ≤ T → ∀ l K, (∃ a b, l = a ++ b ∧ R0 a ∧ SyR R s b) → Al put leave (sub inp f (f + k)) l K → l.length ≤ 1000 → K < farC → Cmp (midB' put leave M inp f at_ s k) K l := fun k hk l K ⟨a, b, e, h1, h2⟩ ha hlen hK => by
  subst e
  obtain ⟨a1, a2, K1, K2, q1, q2, q3, q4⟩ := ha.split rfl
  obtain ⟨g1, g2, g3⟩ := split_sub (by omega) (by omega) q1
  have hm : a1.length ≤ k := by omega
  have z1 := q2.nonneg hp hl
  have z2 := q3.nonneg hp hl
  rw [List.length_append] at hlen
  rw [g2] at q2
  rw [g3] at q3
  have c1 := hat a1.length (by omega) a K1 h1 q2 (by omega) (by omega)
  have c2 := sym_cmp hp hl hM hs (f := f + a1.length) (t := f + k) (by omega) (by omega) (by omega) h2 q3 (by omega) (by omega)
  have c3 := c1.join c2 (by omega) (by omega)
  rw [q4]
  unfold midB'
  refine Cmp.of_le (bestOf_le (fun x hx => ?_) (List.mem_map.2 ⟨a1.length, List.mem_range.2 (by omega), rfl⟩)) c3
  obtain ⟨mid, hm2, rfl⟩ := List.mem_map.1 hx
  exact hwf k mid (by have := List.mem_range.1 hm2; omega) hk
theorem rowF_cmp {R : Nat → List Int → Prop} (hp : ∀ t, 0 ≤ put t) (hl : ∀ t, 0 ≤ leave t) (hb : ∀ t f u, lvS leave (sub inp f u) + put t ≤ farC) (hS : ChSnd put leave ps N inp M) {f T : Nat} (hM : ChCmp put leave N inp M R f (f + T)) (hT : f + T ≤ inp.length) : ∀ (r : List Int) (R0 R1 : List Int → Prop) (at_ : Nat → Bs), (∀ s ∈ r, s < 0 → (-1 - s).toNat < N) →
    (∀ k, k ≤ T → Snd put leave R1 (sub inp f (f + k)) (at_ k)) → (∀ k, k ≤ T → ∀ l K, R0 l → Al put leave (sub inp f (f + k)) l K → l.length ≤ 1000 → K < farC → Cmp (at_ k) K l) →
    ∀ k, k ≤ T → ∀ l K, (∃ a b, l = a ++ b ∧ R0 a ∧ Cat R r b) → Al put leave (sub inp f (f + k)) l K → l.length ≤ 1000 → K < farC → Cmp (rowF put leave M inp f r at_ k) K l
  | [], R0, R1, at_, _, _, hat, k, hk, l, K, ⟨a, b, e, h1, h2⟩, ha, hlen, hK => by
    obtain rfl : b = [] := h2
    rw [List.append_nil] at e
    subst e
    exact hat k hk l K h1 ha hlen hK
  | s :: r, R0, R1, at_, hs, hsn, hat, k, hk, l, K, ⟨a, b, e, h1, c, d, e2, h2, h3⟩, ha, hlen, hK => by
    have hw : ∀ k mid, mid ≤ k → k ≤ T → WfB (joinB (at_ mid) (symB put leave M inp s (f + mid) (f + k))) := fun k mid h4 h5 => ((hsn mid (by omega)).join (sym_snd hp hl hb hS (hs s (by simp)) (f := f + mid) (t := f + k) (by omega) (by omega))).wf
    exact rowF_cmp hp hl hb hS hM hT r _ _ _ (fun x hx => hs x (by simp [hx])) (mid_snd hp hl hb hS (hs s (by simp)) hT hsn) (mid_cmp hp hl hM (hs s (by simp)) hT hw hat) k hk l K ⟨a ++ c, d, by rw [e, e2, List.append_assoc], ⟨a, c, rfl, h1, h2⟩, h3⟩ ha hlen hK
theorem row_cmp {R : Nat → List Int → Prop} (hp : ∀ t, 0 ≤ put t) (hl : ∀ t, 0 ≤ leave t) (hb : ∀ t f u, lvS leave (sub inp f u) + put t ≤ farC) (hS : ChSnd put leave ps N inp M) {f t : Nat} (h1 : f ≤ t) (h2 : t ≤ inp.length) (hM : ChCmp put leave N inp M R f t) {r : List Int} (hs : ∀ s ∈ r, s < 0 → (-1 - s).toNat < N)
    {l : List Int} {K : Int} (hc : Cat R r l) (ha : Al put leave (sub inp f t) l K) (hlen : l.length ≤ 1000) (hK : K < farC) : Cmp (rwB put leave M inp r f t) K l := by
  cases r with
  | nil =>
    obtain rfl : l = [] := hc
    have := al_nil ha rfl
    refine ⟨_, rfl, ?_⟩
    by_cases e : lvS leave (sub inp f t) = K
    · exact .inr ⟨e, .inr ⟨rfl, le.refl _⟩⟩
    · exact .inl (by show lvS leave (sub inp f t) < K; omega)
  | cons s r =>
    obtain ⟨a, b, e, h4, h5⟩ := hc
    have hM' : ChCmp put leave N inp M R f (f + (t - f)) := by rw [show f + (t - f) = t by omega]; exact hM
    exact rowF_cmp hp hl hb hS hM' (by omega) r (SyR R s) (SyR (Der ps) s) (fun k => symB put leave M inp s f (f + k)) (fun x hx => hs x (by simp [hx])) (fun k hk => sym_snd hp hl hb hS (hs s (by simp)) (by omega) (by omega))
      (fun k hk l K h6 h7 h8 h9 => sym_cmp hp hl hM (hs s (by simp)) (Nat.le_refl _) (by omega) (by omega) h6 h7 h8 h9) (t - f) (Nat.le_refl _) l K ⟨a, b, e, h4, h5⟩ (by rw [show f + (t - f) = t by omega]; exact ha) hlen hK
/-- Where nothing becomes better any more and all shorter is as good as can be, all is. -/
theorem bch_settled (hf : Fits N ps) (hp : ∀ t, 0 ≤ put t) (hl : ∀ t, 0 ≤ leave t) (hb : ∀ t f u, lvS leave (sub inp f u) + put t ≤ farC) (hS : ChSnd put leave ps N inp M) {f t : Nat} (h1 : f ≤ t) (h2 : t ≤ inp.length)
    (hin : ∀ f' t', f ≤ f' → f' ≤ t' → t' ≤ t → (f' ≠ f ∨ t' ≠ t) → ChCmp put leave N inp M (Der ps) f' t')
    (hfix : ∀ p ∈ ps, betB (rwB put leave M inp p.2.1 f t) (M p.1.toNat f t) = false) : ChCmp put leave N inp M (Der ps) f t := by
  have C : ∀ (h : Nat) X s K, X < N → DerH ps h X s → Al put leave (sub inp f t) s K → s.length ≤ 1000 → K < farC → Cmp (M X f t) K s := by
    intro h
    induction h with
    | zero => intro X s K _ hd; exact hd.elim
    | succ h ih =>
      rintro X s K hX ⟨p, hp', e, hc⟩ ha hlen hK
      subst e
      have hM : ChCmp put leave N inp M (DerH ps h) f t := fun Y f' t' s' K' hY a1 a2 a3 hd ha' hl' hK' => by
        by_cases e : f' = f ∧ t' = t
        · obtain ⟨rfl, rfl⟩ := e
          exact ih Y s' K' hY hd ha' hl' hK'
        · exact hin f' t' a1 a2 a3 (by omega) Y f' t' s' K' hY (Nat.le_refl _) a2 (Nat.le_refl _) ⟨h, hd⟩ ha' hl' hK'
      have hr := row_cmp hp hl hb hS h1 h2 hM (hf p hp').2 hc ha hlen hK
      exact Cmp.of_le (not_bet (row_snd hp hl hb hS h1 h2 (hf p hp').2).wf (hS _ f t hX h1 h2).wf (hfix p hp')) hr
  intro X f' t' s K hX a1 a2 a3 ⟨h, hd⟩ ha hlen hK
  by_cases e : f' = f ∧ t' = t
  · obtain ⟨rfl, rfl⟩ := e
    exact C h X s K hX hd ha hlen hK
  · exact hin f' t' a1 a2 a3 (by omega) X f' t' s K hX (Nat.le_refl _) a2 (Nat.le_refl _) ⟨h, hd⟩ ha hlen hK
end
end
end Go.Proofs.YtklhjaohnimmnaaDoor
namespace Go.Proofs.YtklhjaohnimmnaaDoor
set_option linter.unusedVariables false
set_option linter.unusedSimpArgs false

theorem best_some {l : List Bs} (h : ∀ x ∈ l, WfB x) {x : Bs} (hx : x ∈ l) (hn : x ≠ none) : bestOf l ≠ none := by
  cases x with
  | none => exact absurd rfl hn
  | some y =>
    obtain ⟨z, e, _⟩ := bestOf_le h hx y rfl
    rw [e]; simp
theorem join_some {a b : Bs} (ha : a ≠ none) (hb : b ≠ none) : joinB a b ≠ none := by
  cases a with
  | none => exact absurd rfl ha
  | some x =>
    cases b with
    | none => exact absurd rfl hb
    | some y => obtain ⟨_, _, _⟩ := x; obtain ⟨_, _, _⟩ := y; simp [joinB]
section
variable {put leave : Int → Int} {M : BCh} {inp : List Int} {ps : List Pr} {N : Nat}
/-- Between F and T there is something for whatever is of R. -/
def ChIs (N : Nat) (M : BCh) (R : Nat → List Int → Prop) (F T : Nat) : Prop := ∀ X f t s, X < N → F ≤ f → f ≤ t → t ≤ T → R X s → M X f t ≠ none
theorem sym_is {R : Nat → List Int → Prop} {F T : Nat} (hM : ChIs N M R F T) {s : Int} (hs : s < 0 → (-1 - s).toNat < N) {f t : Nat} {l : List Int} (h0 : F ≤ f) (h1 : f ≤ t) (h2 : t ≤ T) (h : SyR R s l) : symB put leave M inp s f t ≠ none := by
  unfold symB SyR at *
  by_cases q : s < 0
  · rw [if_pos q] at h ⊢
    exact hM _ f t l (hs q) h0 h1 h2 h
  · rw [if_neg q]
    simp [termB]
theorem rowF_is {R : Nat → List Int → Prop} (hp : ∀ t, 0 ≤ put t) (hl : ∀ t, 0 ≤ leave t) (hb : ∀ t f u, lvS leave (sub inp f u) + put t ≤ farC) (hS : ChSnd put leave ps N inp M) {f T : Nat} (hM : ChIs N M R f (f + T)) (hT : f + T ≤ inp.length) : ∀ (r : List Int) (R1 : List Int → Prop) (at_ : Nat → Bs), (∀ s ∈ r, s < 0 → (-1 - s).toNat < N) →
    (∀ k, k ≤ T → Snd put leave R1 (sub inp f (f + k)) (at_ k)) → (∀ k, k ≤ T → at_ k ≠ none) → ∀ l, Cat R r l → ∀ k, k ≤ T → rowF put leave M inp f r at_ k ≠ none
  | [], R1, at_, _, _, hat, l, _, k, hk => hat k hk
  | s :: r, R1, at_, hs, hsn, hat, l, ⟨c, d, e, h2, h3⟩, k, hk => by
    have hw : ∀ k mid, mid ≤ k → k ≤ T → WfB (joinB (at_ mid) (symB put leave M inp s (f + mid) (f + k))) := fun k mid h4 h5 => ((hsn mid (by omega)).join (sym_snd hp hl hb hS (hs s (by simp)) (f := f + mid) (t := f + k) (by omega) (by omega))).wf
    refine rowF_is hp hl hb hS hM hT r _ _ (fun x hx => hs x (by simp [hx])) (mid_snd hp hl hb hS (hs s (by simp)) hT hsn) (fun k hk => ?_) d h3 k hk
    unfold midB'
    refine best_some (fun x hx => ?_) (List.mem_map.2 ⟨0, List.mem_range.2 (by omega), rfl⟩) (join_some (hat 0 (by omega)) (sym_is hM (hs s (by simp)) (by omega) (by omega) (by omega) h2))
    obtain ⟨mid, hm2, rfl⟩ := List.mem_map.1 hx
    exact hw k mid (by have := List.mem_range.1 hm2; omega) hk
theorem row_is {R : Nat → List Int → Prop} (hp : ∀ t, 0 ≤ put t) (hl : ∀ t, 0 ≤ leave t) (hb : ∀ t f u, lvS leave (sub inp f u) + put t ≤ farC) (hS : ChSnd put leave ps N inp M) {f t : Nat} (h1 : f ≤ t) (h2 : t ≤ inp.length) (hM : ChIs N M R f t) {r : List Int} (hs : ∀ s ∈ r, s < 0 → (-1 - s).toNat < N) {l : List Int} (hc : Cat R r l) : rwB put leave M inp r f t ≠ none := by
  cases r with
  | nil => simp [rwB]
  | cons s r =>
    obtain ⟨a, b, e, h4, h5⟩ := hc
    have hM' : ChIs N M R f (f + (t - f)) := by rw [show f + (t - f) = t by omega]; exact hM
    exact rowF_is hp hl hb hS hM' (by omega) r (SyR (Der ps) s) (fun k => symB put leave M inp s f (f + k)) (fun x hx => hs x (by simp [hx])) (fun k hk => sym_snd hp hl hb hS (hs s (by simp)) (by omega) (by omega)) (fun k hk => sym_is hM (hs s (by simp)) (Nat.le_refl _) (by omega) (by omega) h4) b h5 (t - f) (Nat.le_refl _)
theorem bch_is (hf : Fits N ps) (hp : ∀ t, 0 ≤ put t) (hl : ∀ t, 0 ≤ leave t) (hb : ∀ t f u, lvS leave (sub inp f u) + put t ≤ farC) (hS : ChSnd put leave ps N inp M) {f t : Nat} (h1 : f ≤ t) (h2 : t ≤ inp.length)
    (hin : ∀ f' t', f ≤ f' → f' ≤ t' → t' ≤ t → (f' ≠ f ∨ t' ≠ t) → ChIs N M (Der ps) f' t')
    (hfix : ∀ p ∈ ps, betB (rwB put leave M inp p.2.1 f t) (M p.1.toNat f t) = false) : ChIs N M (Der ps) f t := by
  have C : ∀ (h : Nat) X s, X < N → DerH ps h X s → M X f t ≠ none := by
    intro h
    induction h with
    | zero => intro X s _ hd; exact hd.elim
    | succ h ih =>
      rintro X s hX ⟨p, hp', e, hc⟩ hn
      subst e
      have hM : ChIs N M (DerH ps h) f t := fun Y f' t' s' hY a1 a2 a3 hd => by
        by_cases e : f' = f ∧ t' = t
        · obtain ⟨rfl, rfl⟩ := e
          exact ih Y s' hY hd
        · exact hin f' t' a1 a2 a3 (by omega) Y f' t' s' hY (Nat.le_refl _) a2 (Nat.le_refl _) ⟨h, hd⟩
      have hr := row_is hp hl hb hS h1 h2 hM (hf p hp').2 hc
      have hx := hfix p hp'
      rw [hn] at hx
      cases e : rwB put leave M inp p.2.1 f t with
      | none => exact hr e
      | some y => rw [e] at hx; obtain ⟨_, _, _⟩ := y; simp [betB] at hx
  intro X f' t' s hX a1 a2 a3 ⟨h, hd⟩
  by_cases e : f' = f ∧ t' = t
  · obtain ⟨rfl, rfl⟩ := e
    exact C h X s hX hd
  · exact hin f' t' a1 a2 a3 (by omega) X f' t' s hX (Nat.le_refl _) a2 (Nat.le_refl _) ⟨h, hd⟩

theorem al_zero (hp0 : ∀ t, 0 ≤ put t) (hl0 : ∀ t, 0 ≤ leave t) {a b : List Int} {K : Int} (h : Al put leave a b K) : (∀ t ∈ b, 1 ≤ put t) → (∀ t ∈ a, 1 ≤ leave t) → K ≤ 0 → a = b := by
  induction h with
  | nil => intro _ _ _; rfl
  | put t h ih => intro h1 h2 e; have h3 := h.nonneg hp0 hl0; have h4 := h1 t (by simp); omega
  | leave f h ih => intro h1 h2 e; have h3 := h.nonneg hp0 hl0; have h4 := h2 f (by simp); omega
  | same x h ih => intro h1 h2 e; rw [ih (fun t ht => h1 t (by simp [ht])) (fun t ht => h2 t (by simp [ht])) e]
theorem al_self : ∀ (a : List Int), Al put leave a a 0
  | [] => .nil
  | x :: a => .same x (al_self a)
/-- What the best of a name between all places says: a sentence, its cost; none is nearer, or as near and ahead. -/
theorem mended (hp : ∀ t, 0 ≤ put t ∧ put t ≤ 1000) (hl : ∀ t, 0 ≤ leave t ∧ leave t ≤ 1000) (hi : inp.length ≤ 1000) {X : Nat} (hX : X < N) (hS : ChSnd put leave ps N inp M) (hM : ChCmp put leave N inp M (Der ps) 0 inp.length) {c n : Int} {l : List Int} (hb : M X 0 inp.length = some (c, n, l)) (hn : n ≤ 1000) :
    Der ps X l ∧ (l.length : Int) = n ∧ c = edit put leave inp l ∧ ∀ s, Der ps X s → s.length ≤ 1000 → c ≤ edit put leave inp s ∧ (c = edit put leave inp s → earl s l = false) := by
  have hp0 : ∀ t, 0 ≤ put t ∧ put t ≤ 1000 := fun t => by have := hp t; omega
  have hl0 : ∀ t, 0 ≤ leave t ∧ leave t ≤ 1000 := fun t => by have := hl t; omega
  have key : ∀ s, Der ps X s → s.length ≤ 1000 → leT (c, n, l) (edit put leave inp s, (s.length : Int), s) := fun s hd hlen => by
    have hal := al_edit put leave _ inp s (Nat.le_refl _)
    have hbd := edit_bound put leave hp0 hl0 _ inp s (Nat.le_refl _)
    obtain ⟨x, e, hx⟩ := hM X 0 inp.length s _ hX (Nat.le_refl _) (Nat.zero_le _) (Nat.le_refl _) hd (by rw [sub_all]; exact hal) hlen (by unfold farC; omega)
    rw [hb] at e
    cases e
    exact hx
  obtain ⟨s, K, h1, h2, h3, h4, h5, h6⟩ := hS X 0 inp.length hX (Nat.zero_le _) (Nat.le_refl _) c n l hb
  rw [sub_all] at h2
  rw [if_neg (by omega)] at h6
  subst h6
  unfold farC at h4 h5
  have hlen : (l.length : Int) = n := by omega
  have hbd := edit_bound put leave hp0 hl0 _ inp l (Nat.le_refl _)
  have he := edit_le put leave h2
  have hk := key l h1 (by omega)
  refine ⟨h1, hlen, ?_, fun s hd hs => ?_⟩
  · rcases hk with q | ⟨q, _⟩ <;> simp only at q
    · omega
    · exact q
  · have hk2 := key s hd hs
    rcases hk2 with q | ⟨q, q2⟩ <;> simp only at q
    · exact ⟨by omega, fun e => by omega⟩
    · refine ⟨by omega, fun _ => ?_⟩
      unfold earl
      rcases q2 with q2 | ⟨q2, q3⟩ <;> simp only at q2
      · rw [if_neg (by omega)]
        simp; omega
      · rw [if_pos (by omega)]
        exact q3.2
theorem mended_zero (hp0 : ∀ t, 0 ≤ put t ∧ put t ≤ 1000) (hl0 : ∀ t, 0 ≤ leave t ∧ leave t ≤ 1000) {l : List Int} {X : Nat} {c : Int} (h1 : Der ps X l) (hpl : ∀ t ∈ l, 1 ≤ put t) (hli : ∀ t ∈ inp, 1 ≤ leave t) (hc : c = edit put leave inp l) (hi : inp.length ≤ 1000) (hk : ∀ s, Der ps X s → s.length ≤ 1000 → c ≤ edit put leave inp s) : c = 0 ↔ Der ps X inp := by
  have hal := al_edit put leave _ inp l (Nat.le_refl _)
  constructor
  · intro e
    have := al_zero (fun t => (hp0 t).1) (fun t => (hl0 t).1) hal hpl hli (by omega)
    rw [this]; exact h1
  · intro hd
    have h2 := hk inp hd hi
    have h3 := edit_le put leave (al_self (put := put) (leave := leave) inp)
    have h4 := (edit_bound put leave hp0 hl0 _ inp l (Nat.le_refl _)).1
    omega
end
end Go.Proofs.YtklhjaohnimmnaaDoor
