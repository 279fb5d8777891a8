/- Plain: what symbols stand for, between two places of an input; a chart is right when it says just what is derived. No program here. -/
import Derived.Test.YtgfchgnebpogjaaSoP
namespace Go.Proofs.Ytgfchgnebpogjaa
set_option linter.unusedVariables false
set_option linter.unusedSimpArgs false

/-- A chart: of a name, from where, to where. -/
abbrev Ch := Nat → Nat → Nat → Bool
/-- A symbol stands for what lies between f and t. -/
def Sy (m : Ch) (inp : List Int) (s : Int) (f t : Nat) : Prop := if s < 0 then m (-1 - s).toNat f t = true else t = f + 1 ∧ nth inp f = s
/-- Symbols, one behind the other. -/
def Rch (m : Ch) (inp : List Int) : List Int → Nat → Nat → Prop
  | [], f, t => f = t
  | s :: r, f, t => ∃ j, f ≤ j ∧ j ≤ t ∧ Sy m inp s f j ∧ Rch m inp r j t

theorem Rch.le {m : Ch} {inp : List Int} : ∀ {r : List Int} {f t : Nat}, Rch m inp r f t → f ≤ t
  | [], _, _, h => Nat.le_of_eq h
  | _ :: _, _, _, ⟨_, h1, h2, _, _⟩ => Nat.le_trans h1 h2
theorem Rch.snoc {m : Ch} {inp : List Int} {s : Int} : ∀ {r : List Int} {f t : Nat}, Rch m inp (r ++ [s]) f t ↔ ∃ j, f ≤ j ∧ j ≤ t ∧ Rch m inp r f j ∧ Sy m inp s j t
  | [], f, t => by
    constructor
    · rintro ⟨j, h1, h2, h3, h4⟩
      obtain rfl : j = t := h4
      exact ⟨f, Nat.le_refl _, h1, rfl, h3⟩
    · rintro ⟨j, h1, h2, h3, h4⟩
      obtain rfl : f = j := h3
      exact ⟨t, h2, Nat.le_refl _, h4, rfl⟩
  | a :: r, f, t => by
    constructor
    · rintro ⟨j, h1, h2, h3, h4⟩
      obtain ⟨k, k1, k2, k3, k4⟩ := Rch.snoc.1 h4
      exact ⟨k, Nat.le_trans h1 k1, k2, ⟨j, h1, k1, h3, k3⟩, k4⟩
    · rintro ⟨k, k1, k2, ⟨j, h1, h2, h3, h4⟩, k4⟩
      exact ⟨j, h1, Nat.le_trans h2 k2, h3, Rch.snoc.2 ⟨k, h2, k2, h4, k4⟩⟩

/-- What lies between two places. -/
def sub (inp : List Int) (f t : Nat) : List Int := (inp.drop f).take (t - f)
theorem sub_app {inp : List Int} {f j t : Nat} (h1 : f ≤ j) (h2 : j ≤ t) (h3 : t ≤ inp.length) : sub inp f t = sub inp f j ++ sub inp j t := by
  unfold sub
  rw [show t - f = (j - f) + (t - j) by omega, List.take_add, List.drop_drop, show f + (j - f) = j by omega]
theorem sub_nil {inp : List Int} {f : Nat} : sub inp f f = [] := by unfold sub; simp
theorem sub_one {inp : List Int} {f : Nat} (h : f < inp.length) : sub inp f (f + 1) = [nth inp f] := by
  unfold sub
  rw [show f + 1 - f = 1 by omega, List.drop_eq_getElem_cons h, nth_get h]; rfl
theorem sub_len {inp : List Int} {f t : Nat} (h1 : f ≤ t) (h2 : t ≤ inp.length) : (sub inp f t).length = t - f := by
  unfold sub; rw [List.length_take, List.length_drop]; omega
theorem sub_all {inp : List Int} : sub inp 0 inp.length = inp := by unfold sub; simp

section
variable {ps : List Pr} {N : Nat} {inp : List Int}
/-- All that the chart says is so. -/
def ChOk (ps : List Pr) (N : Nat) (inp : List Int) (m : Ch) : Prop := ∀ X f t, X < N → f ≤ t → t ≤ inp.length → m X f t = true → Der ps X (sub inp f t)
/-- All that is so, between f and t, the chart says. -/
def ChAll (ps : List Pr) (N : Nat) (inp : List Int) (m : Ch) (f t : Nat) : Prop := ∀ X, X < N → Der ps X (sub inp f t) → m X f t = true

theorem rch_cat {m : Ch} (hm : ChOk ps N inp m) : ∀ {r : List Int} {f t : Nat}, (∀ s ∈ r, s < 0 → (-1 - s).toNat < N) → t ≤ inp.length → Rch m inp r f t → Cat (Der ps) r (sub inp f t)
  | [], f, t, _, _, h => by
    obtain rfl : f = t := h
    exact sub_nil
  | s :: r, f, t, hN, ht, ⟨j, h1, h2, h3, h4⟩ => by
    refine ⟨sub inp f j, sub inp j t, sub_app h1 h2 ht, ?_, rch_cat hm (fun a ha => hN a (List.mem_cons_of_mem _ ha)) ht h4⟩
    unfold Sy at h3
    by_cases hs : s < 0
    · rw [if_pos hs] at h3 ⊢
      exact hm _ _ _ (hN s (by simp) hs) h1 (by omega) h3
    · rw [if_neg hs] at h3 ⊢
      obtain ⟨rfl, rfl⟩ := h3
      exact sub_one (by omega)
theorem split_sub : ∀ {a b : List Int} {f t : Nat}, f ≤ t → t ≤ inp.length → sub inp f t = a ++ b → f + a.length ≤ t ∧ a = sub inp f (f + a.length) ∧ b = sub inp (f + a.length) t := fun {a b f t} h1 h2 h => by
  have hl := congrArg List.length h
  rw [sub_len h1 h2, List.length_append] at hl
  have h3 : f + a.length ≤ t := by omega
  have h4 := sub_app (inp := inp) (f := f) (j := f + a.length) (t := t) (by omega) h3 h2
  rw [h] at h4
  have h5 := List.append_inj h4 (by rw [sub_len (by omega) (by omega)]; omega)
  exact ⟨h3, h5.1, h5.2⟩
theorem cat_rch {m : Ch} {R : Nat → List Int → Prop} {F T : Nat} (hR : ∀ X f t, X < N → F ≤ f → f ≤ t → t ≤ T → R X (sub inp f t) → m X f t = true) (hT : T ≤ inp.length) : ∀ {r : List Int} {f t : Nat}, (∀ s ∈ r, s < 0 → (-1 - s).toNat < N) → F ≤ f → f ≤ t → t ≤ T → Cat R r (sub inp f t) → Rch m inp r f t
  | [], f, t, _, _, h1, h2, h => by
    have h : sub inp f t = [] := h
    have := congrArg List.length h
    rw [sub_len h1 (by omega)] at this
    show f = t
    simp at this
    omega
  | s :: r, f, t, hN, h0, h1, h2, ⟨a, b, e, h3, h4⟩ => by
    obtain ⟨q1, q2, q3⟩ := split_sub h1 (by omega) e
    refine ⟨f + a.length, by omega, q1, ?_, cat_rch hR hT (fun a ha => hN a (List.mem_cons_of_mem _ ha)) (by omega) q1 h2 (by rw [← q3]; exact h4)⟩
    unfold Sy
    by_cases hs : s < 0
    · rw [if_pos hs] at h3 ⊢
      exact hR _ _ _ (hN s (by simp) hs) h0 (by omega) (by omega) (by rw [← q2]; exact h3)
    · rw [if_neg hs] at h3 ⊢
      subst h3
      simp only [List.length_singleton] at q1 q2 ⊢
      rw [sub_one (by omega)] at q2
      simp only [List.cons.injEq, and_true] at q2
      exact ⟨trivial, q2.symm⟩

/-- Where nothing is new any more and all shorter is there, all is there. -/
theorem ch_settled {m : Ch} (hf : Fits N ps) {f t : Nat} (h1 : f ≤ t) (h2 : t ≤ inp.length) (hin : ∀ f' t', f ≤ f' → f' ≤ t' → t' ≤ t → (f' ≠ f ∨ t' ≠ t) → ChAll ps N inp m f' t')
    (hfix : ∀ p ∈ ps, Rch m inp p.2.1 f t → m p.1.toNat f t = true) : ChAll ps N inp m f t := by
  have C : ∀ (h : Nat) (X : Nat), DerH ps h X (sub inp f t) → m X f t = true := by
    intro h
    induction h with
    | zero => intro X hd; exact hd.elim
    | succ h ih =>
      rintro X ⟨p, hp, e, hc⟩
      subst e
      refine hfix p hp (cat_rch (R := DerH ps h) (F := f) (T := t) (N := N) (fun X f' t' hX a1 a2 a3 hd => ?_) h2 (hf p hp).2 (Nat.le_refl _) h1 (Nat.le_refl _) hc)
      by_cases e : f' = f ∧ t' = t
      · obtain ⟨rfl, rfl⟩ := e
        exact ih X hd
      · exact hin f' t' a1 a2 a3 (by omega) X hX ⟨h, hd⟩
  rintro X _ ⟨h, hd⟩
  exact C h X hd

/-- A truth more. -/
def upd (m : Ch) (X f t : Nat) : Ch := fun Y a b => if Y = X ∧ a = f ∧ b = t then true else m Y a b
theorem upd_at {m : Ch} {X f t : Nat} : upd m X f t X f t = true := by simp [upd]
theorem upd_mono {m : Ch} {X f t Y a b : Nat} (h : m Y a b = true) : upd m X f t Y a b = true := by unfold upd; split <;> simp [h]
theorem upd_off {m : Ch} {X f t Y a b : Nat} (h : a ≠ f ∨ b ≠ t) : upd m X f t Y a b = m Y a b := by
  unfold upd
  rw [if_neg (by omega)]
theorem upd_same {m : Ch} {X f t : Nat} (h : m X f t = true) : upd m X f t = m := by
  funext Y a b
  unfold upd
  split
  · rename_i e; obtain ⟨rfl, rfl, rfl⟩ := e; exact h.symm
  · rfl
theorem ChOk.upd {m : Ch} (hm : ChOk ps N inp m) {p : Pr} (hp : p ∈ ps) (hf : Fits N ps) {f t : Nat} (ht : t ≤ inp.length) (h : Rch m inp p.2.1 f t) : ChOk ps N inp (upd m p.1.toNat f t) := by
  intro X a b hX h1 h2 h3
  unfold Go.Proofs.Ytgfchgnebpogjaa.upd at h3
  split at h3
  · rename_i e
    obtain ⟨rfl, rfl, rfl⟩ := e
    exact Der.mk ps hp (rch_cat hm (hf p hp).2 ht h)
  · exact hm X a b hX h1 h2 h3
/-- How many truths are not there yet, between f and t. -/
def muC (N : Nat) (m : Ch) (f t : Nat) : Nat := ((List.range N).filter fun X => !m X f t).length
theorem muC_upd {m : Ch} {X f t : Nat} (hX : X < N) (h : m X f t = false) : muC N (upd m X f t) f t < muC N m f t := by
  unfold muC
  refine filter_lt (List.range N) (fun a _ ha => ?_) ⟨X, List.mem_range.2 hX, by rw [h]; rfl, by rw [upd_at]; rfl⟩
  cases hm : m a f t
  · rfl
  · rw [upd_mono hm] at ha; exact ha
end
end Go.Proofs.Ytgfchgnebpogjaa
