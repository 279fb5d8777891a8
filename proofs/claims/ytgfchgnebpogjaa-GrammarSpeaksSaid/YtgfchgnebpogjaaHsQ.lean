/- Plain: which names have trees, which the empty sentence, with which terminals sentences begin: held against what is derived. -/
import Derived.Test.YtgfchgnebpogjaaSoP
import Derived.Test.YtgfchgnebpogjaaFuP
import Derived.Test.YtgfchgnebpogjaaGd
import Derived.Test.YtgfchgnebpogjaaFr
namespace Go.Proofs.Ytgfchgnebpogjaa
set_option linter.unusedVariables false
set_option linter.unusedSimpArgs false

section
variable {ps : List Pr} {N T : Nat}
def liveT (ps : List Pr) (N : Nat) : List Bool := rounds (stepG livS) ps N (b0 N)
def empT (ps : List Pr) (N : Nat) : List Bool := rounds (stepG empS) ps N (b0 N)
theorem growT_len {f : List Bool → Int → Bool} (n : Nat) : (rounds (stepG f) ps n (b0 N)).length = N := rounds_keep (Q := fun x : List Bool => x.length = N) (fun k p y hp hy => by rw [stepG_len]; exact hy) (by simp [b0]) n
theorem grow_fixed {f : List Bool → Int → Bool} (hf : Fits N ps) {p : Pr} (hp : p ∈ ps) (h : p.2.1.all (f (rounds (stepG f) ps N (b0 N))) = true) : bth (rounds (stepG f) ps N (b0 N)) p.1.toNat = true := by
  obtain ⟨k, hk, e⟩ := List.getElem_of_mem hp
  have h1 := pass_fixed stepG_same ps 0 _ (stepG_done (f := f) (ps := ps) (N := N) (fun p hp => (hf p hp).1)) k p (by rw [List.getElem?_eq_getElem hk, e])
  generalize rounds (stepG f) ps N (b0 N) = x at h h1 ⊢
  unfold stepG at h1
  split at h1
  · rename_i h2
    rw [h] at h2
    simpa using h2
  · cases h1
theorem Cat.all {R : Nat → List Int → Prop} {q : Int → Bool} : ∀ {r l : List Int}, (∀ s X a, s ∈ r → s < 0 → X = (-1 - s).toNat → R X a → q s = true) → (∀ s, s ∈ r → 0 ≤ s → q s = true) → Cat R r l → r.all q = true
  | [], _, _, _, _ => rfl
  | s :: r, l, h1, h2, ⟨a, b, e, h3, h4⟩ => by
    rw [List.all_cons, Cat.all (fun s X a hs => h1 s X a (List.mem_cons_of_mem _ hs)) (fun s hs => h2 s (List.mem_cons_of_mem _ hs)) h4, Bool.and_true]
    by_cases hs : s < 0
    · rw [if_pos hs] at h3; exact h1 s _ a (by simp) hs rfl h3
    · exact h2 s (by simp) (by omega)
theorem livS_mk {l : List Bool} {s : Int} (h : bth l (-1 - s).toNat = true) : livS l s = true := by unfold livS; rw [h]; simp
theorem livS_pos {l : List Bool} {s : Int} (h : 0 ≤ s) : livS l s = true := by unfold livS; simp [h]
theorem live_of (hf : Fits N ps) : ∀ (h X : Nat) (l : List Int), DerH ps h X l → bth (liveT ps N) X = true
  | 0, _, _, hd => hd.elim
  | h + 1, X, l, ⟨p, hp, e, hc⟩ => by
    subst e
    refine grow_fixed hf hp (Cat.all (fun s X a hs h0 e hd => ?_) (fun s hs h0 => ?_) hc)
    · subst e
      exact livS_mk (live_of hf h _ a hd)
    · exact livS_pos h0
theorem cat_of_all {R : Nat → List Int → Prop} {l : List Bool} : ∀ {r : List Int}, (∀ X, bth l X = true → ∃ a, R X a) → r.all (livS l) = true → ∃ a, Cat R r a
  | [], _, _ => ⟨[], rfl⟩
  | s :: r, hR, h => by
    rw [List.all_cons, Bool.and_eq_true] at h
    obtain ⟨b, hb⟩ := cat_of_all hR h.2
    have h1 := h.1
    unfold livS at h1
    by_cases hs : s < 0
    · simp only [Bool.or_eq_true, decide_eq_true_eq] at h1
      obtain ⟨a, ha⟩ := hR _ (by rcases h1 with q | q; omega; exact q)
      exact ⟨a ++ b, a, b, rfl, by rw [if_pos hs]; exact ha, hb⟩
    · exact ⟨[s] ++ b, [s], b, rfl, by rw [if_neg hs], hb⟩
theorem live_der (hf : Fits N ps) {X : Nat} (h : bth (liveT ps N) X = true) : ∃ l, Der ps X l := by
  have := rounds_keep (step := stepG livS) (ps := ps) (Q := fun x : List Bool => x.length = N ∧ ∀ X, bth x X = true → ∃ l, Der ps X l) (fun k p y hk hy => by
    have hp := List.mem_of_getElem? hk
    refine ⟨by rw [stepG_len]; exact hy.1, ?_⟩
    unfold stepG
    split
    · exact hy.2
    · rename_i hc
      simp only [Bool.or_eq_true, Bool.not_eq_true', not_or, Bool.not_eq_false] at hc
      obtain ⟨a, ha⟩ := cat_of_all hy.2 hc.2
      intro X hX
      rw [bth_set (by rw [hy.1]; exact (hf p hp).1)] at hX
      split at hX
      · rename_i e; subst e; exact ⟨a, Der.mk ps hp ha⟩
      · exact hy.2 X hX) (x := b0 N) ⟨by simp [b0], fun X hX => by
    unfold bth b0 at hX
    rw [List.getD_eq_getElem?_getD, List.getElem?_replicate] at hX
    split at hX <;> simp at hX⟩ N
  exact this.2 X h
theorem live_iff (hf : Fits N ps) {X : Nat} : bth (liveT ps N) X = true ↔ ∃ l, Der ps X l := ⟨live_der hf, fun ⟨l, h, hd⟩ => live_of hf h X l hd⟩
theorem Cat.nil {R : Nat → List Int → Prop} {s : Int} {r l : List Int} (h : Cat R (s :: r) l) (hl : l = []) : s < 0 ∧ R (-1 - s).toNat [] ∧ Cat R r [] := by
  obtain ⟨a, b, e, h1, h2⟩ := h
  subst hl
  have h3 := List.append_eq_nil_iff.1 e.symm
  obtain ⟨rfl, rfl⟩ := h3
  by_cases hs : s < 0
  · rw [if_pos hs] at h1; exact ⟨hs, h1, h2⟩
  · rw [if_neg hs] at h1; cases h1
theorem cat_emp {R : Nat → List Int → Prop} {x : List Bool} (hR : ∀ X, R X [] → bth x X = true) : ∀ {r : List Int}, Cat R r [] → r.all (empS x) = true
  | [], _ => rfl
  | s :: r, h => by
    obtain ⟨h1, h2, h3⟩ := h.nil rfl
    rw [List.all_cons, cat_emp hR h3, Bool.and_true]
    unfold empS; rw [hR _ h2]; simp [h1]
theorem emp_of (hf : Fits N ps) : ∀ (h X : Nat), DerH ps h X [] → bth (empT ps N) X = true
  | 0, _, hd => hd.elim
  | h + 1, X, ⟨p, hp, e, hc⟩ => by
    subst e
    exact grow_fixed hf hp (cat_emp (R := DerH ps h) (fun X hd => emp_of hf h X hd) hc)
theorem all_emp_cat {R : Nat → List Int → Prop} {x : List Bool} (hR : ∀ X, bth x X = true → R X []) : ∀ {r : List Int}, r.all (empS x) = true → Cat R r []
  | [], _ => rfl
  | s :: r, h => by
    rw [List.all_cons, Bool.and_eq_true] at h
    have h1 := h.1
    unfold empS at h1
    simp only [Bool.and_eq_true, decide_eq_true_eq] at h1
    exact ⟨[], [], rfl, by rw [if_pos h1.1]; exact hR _ h1.2, all_emp_cat hR h.2⟩
theorem emp_der (hf : Fits N ps) {X : Nat} (h : bth (empT ps N) X = true) : Der ps X [] := by
  have := rounds_keep (step := stepG empS) (ps := ps) (Q := fun x : List Bool => x.length = N ∧ ∀ X, bth x X = true → Der ps X []) (fun k p y hk hy => by
    have hp := List.mem_of_getElem? hk
    refine ⟨by rw [stepG_len]; exact hy.1, ?_⟩
    unfold stepG
    split
    · exact hy.2
    · rename_i hc
      simp only [Bool.or_eq_true, Bool.not_eq_true', not_or, Bool.not_eq_false] at hc
      intro X hX
      rw [bth_set (by rw [hy.1]; exact (hf p hp).1)] at hX
      split at hX
      · rename_i e; subst e; exact Der.mk ps hp (all_emp_cat hy.2 hc.2)
      · exact hy.2 X hX) (x := b0 N) ⟨by simp [b0], fun X hX => by
    unfold bth b0 at hX
    rw [List.getD_eq_getElem?_getD, List.getElem?_replicate] at hX
    split at hX <;> simp at hX⟩ N
  exact this.2 X h
theorem emp_iff (hf : Fits N ps) {X : Nat} : bth (empT ps N) X = true ↔ Der ps X [] := ⟨emp_der hf, fun ⟨h, hd⟩ => emp_of hf h X hd⟩

/-! ### First -/
theorem newB_sub {a c : List Bool} {k : Nat} (hl : a.length = c.length) (h : newB a c = false) (hc : bth c k = true) : bth a k = true := by
  have h2 := (muB_or a c hl).2.2 h
  by_cases hk : k < c.length
  · have h3 := orB_nth (a := a) (c := c) (T := c.length) (k := k) hl rfl hk
    rw [h2, hc, Bool.or_true] at h3
    exact h3
  · unfold bth at hc
    rw [List.getD_eq_getElem?_getD, List.getElem?_eq_none (by omega)] at hc
    simp at hc
theorem goF_closed {emp : List Bool} {left : Nat} (hleft : left < N) {M : List (List Bool)} (hM : Rect N T M) {R : Nat → List Int → Prop} {a : Int} {l : List Int}
    (hR : ∀ X l', R X (a :: l') → bth (rowB M X) a.toNat = true) (hE : ∀ X, R X [] → bth emp X = true) : ∀ (r : List Int) (q : Bool), (∀ s ∈ r, (s < 0 → (-1 - s).toNat < N) ∧ s < (T : Int)) → (goF emp left r M q).2 = false → Cat R r (a :: l) → bth (rowB M left) a.toNat = true
  | [], q, _, _, h => by cases (show (a :: l) = [] from h)
  | s :: r, q, hs, h, ⟨a1, b, e, h1, h2⟩ => by
    have hlm : left < M.length := by rw [hM.1]; exact hleft
    by_cases h0 : s < 0
    · rw [if_pos h0] at h1
      have hnm := (hs s (by simp)).1 h0
      have hrl : (rowB M left).length = (rowB M (-1 - s).toNat).length := by rw [hM.2 _ hleft, hM.2 _ hnm]
      have hnew : newB (rowB M left) (rowB M (-1 - s).toNat) = false := by
        simp only [goF] at h
        rw [if_neg (by omega)] at h
        split at h
        · have h3 := ((goF_all (T := T) (N := N) hleft r _ _ (hM.set hleft (orB_len (T := T) (hM.2 _ hleft) (hM.2 _ hnm))) (fun t ht => hs t (List.mem_cons_of_mem _ ht))).2.2.2 h).1
          simp only [Bool.or_eq_false_iff] at h3; exact h3.1
        · simp only [Bool.or_eq_false_iff] at h; exact h.1
      cases a1 with
      | cons a' l1 =>
        simp only [List.cons_append, List.cons.injEq] at e
        obtain ⟨rfl, _⟩ := e
        exact newB_sub hrl hnew (hR _ _ h1)
      | nil =>
        rw [List.nil_append] at e
        subst e
        simp only [goF] at h
        rw [if_neg (by omega), if_pos (hE _ h1), (muB_or _ _ hrl).2.2 hnew, set_rowB hlm] at h
        exact goF_closed hleft hM hR hE r _ (fun t ht => hs t (List.mem_cons_of_mem _ ht)) h h2
    · rw [if_neg h0] at h1
      subst h1
      simp only [List.cons_append, List.nil_append, List.cons.injEq] at e
      obtain ⟨rfl, _⟩ := e
      simp only [goF] at h
      rw [if_pos (by omega)] at h
      simp only [Bool.or_eq_false_iff, Bool.not_eq_false'] at h
      exact h.2
theorem frT_rect {lv em : List Bool} (hp : ∀ p ∈ ps, FitF N T p) (n : Nat) : Rect N T (rounds (stepF lv em) ps n (m0 N T)) :=
  rounds_keep (Q := Rect N T) (fun k p y hk hy => (stepF_all (hp p (List.mem_of_getElem? hk)) hy).1) (m0_rect N T) n
theorem frT_fixed {lv em : List Bool} (hp : ∀ p ∈ ps, FitF N T p) {p : Pr} (hpm : p ∈ ps) : ∃ k, (stepF lv em k p (rounds (stepF lv em) ps N (m0 N T))).2 = false := by
  obtain ⟨k, hk, e⟩ := List.getElem_of_mem hpm
  have hQ : ∀ k p y, ps[k]? = some p → Rect N T y → Rect N T (stepF lv em k p y).1 := fun k p y hk hy => (stepF_all (hp p (List.mem_of_getElem? hk)) hy).1
  have hd := stepF_done (lives := lv) (emp := em) hp
  have hx : Rect N T (m0 N T) := m0_rect N T
  change (passF (stepF lv em) 0 ps (rounds (stepF lv em) ps N (m0 N T))).2 = false at hd
  rw [← gd_done hQ hx] at hd
  have h1 := pass_fixed (gd_same (fun k p y hk hy h => (stepF_all (hp p (List.mem_of_getElem? hk)) hy).2.2.2 h)) ps 0 _ hd k p (by rw [List.getElem?_eq_getElem hk, e])
  rw [Nat.zero_add, gd_pos (by rw [List.getElem?_eq_getElem hk, e]) (by rw [gd_rounds hQ hx]; exact frT_rect hp N), gd_rounds hQ hx] at h1
  exact ⟨k, h1⟩
theorem first_of (hf : Fits N ps) (hp : ∀ p ∈ ps, FitF N T p) {a : Int} : ∀ (h X : Nat) (l : List Int), DerH ps h X (a :: l) → bth (rowB (rounds (stepF (liveT ps N) (empT ps N)) ps N (m0 N T)) X) a.toNat = true
  | 0, _, _, hd => hd.elim
  | h + 1, X, l, ⟨p, hpm, e, hc⟩ => by
    subst e
    obtain ⟨k, hk⟩ := frT_fixed (lv := liveT ps N) (em := empT ps N) hp hpm
    have hall : p.2.1.all (livS (liveT ps N)) = true := Cat.all (fun s X a hs h0 e hd => by
      subst e
      exact livS_mk (live_of hf h _ a hd)) (fun s hs h0 => livS_pos h0) hc
    unfold stepF at hk
    rw [if_pos hall] at hk
    exact goF_closed (hf p hpm).1 (frT_rect hp N) (R := DerH ps h) (fun X l' hd => first_of hf hp h X l' hd) (fun X hd => emp_of hf h X hd) p.2.1 false (hp p hpm).2 hk hc
theorem nums_mem {r : List Bool} {a : Int} (h0 : 0 ≤ a) (h : bth r a.toNat = true) : a ∈ nums r := by
  unfold nums numsK
  refine List.mem_map.2 ⟨a.toNat, List.mem_filter.2 ⟨List.mem_range.2 ?_, h⟩, by omega⟩
  apply Classical.byContradiction
  intro hn
  unfold bth at h
  rw [List.getD_eq_getElem?_getD, List.getElem?_eq_none (by omega)] at h
  simp at h
/-- Terminals of what is derived. -/
theorem der_dig {T : Nat} (hT : ∀ p ∈ ps, ∀ s ∈ p.2.1, s < (T : Int)) : ∀ (h X : Nat) (l : List Int), DerH ps h X l → ∀ s ∈ l, 0 ≤ s ∧ s < (T : Int)
  | 0, _, _, hd => hd.elim
  | h + 1, X, l, ⟨p, hp, e, hc⟩ => by
    have C : ∀ (r l : List Int), (∀ s ∈ r, s < (T : Int)) → Cat (DerH ps h) r l → ∀ s ∈ l, 0 ≤ s ∧ s < (T : Int) := by
      intro r
      induction r with
      | nil => intro l _ hc s hs; rw [show l = [] from hc] at hs; cases hs
      | cons a r ih =>
        rintro l hr ⟨a1, b, e, h1, h2⟩ s hs
        subst e
        rcases List.mem_append.1 hs with hs | hs
        · by_cases h0 : a < 0
          · rw [if_pos h0] at h1; exact der_dig hT h _ a1 h1 s hs
          · rw [if_neg h0] at h1
            subst h1
            rw [List.mem_singleton] at hs
            subst hs
            exact ⟨by omega, hr s (by simp)⟩
        · exact ih b (fun t ht => hr t (List.mem_cons_of_mem _ ht)) h2 s hs
    exact C p.2.1 l (hT p hp) hc
end
end Go.Proofs.Ytgfchgnebpogjaa
