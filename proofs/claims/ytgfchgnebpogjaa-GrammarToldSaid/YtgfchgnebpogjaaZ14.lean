/- grammar.First. · Plain: which productions stand in trees of the start: two ways to the same. No program here. · Plain: names that stand within themselves with the same sentence: edges, paths, the two ways to find them. No program here. · The document's Used. -/
import Derived.Test.YtgfchgnebpogjaaZ12
import Derived.Test.YtgfchgnebpogjaaZ6
import Derived.Test.YtgfchgnebpogjaaZ10
import Derived.Deep.Cut
namespace Go.Proofs.Ytgfchgnebpogjaa
open Go.RowKit BigFrame
set_option linter.unusedVariables false
set_option linter.unusedSimpArgs false
set_option maxRecDepth 100000

theorem FirstT_bad (G : Gr) (Ap Al As : Option Addr) (np cp nl cl ns cs : Nat) (w : World) (B : Nat) (hB : B ≤ w.heap.size) (hG : GrIn w B G Ap Al As np cp nl cl ns cs) (hk : okB G = false) :
    Calls Try.prog 20 #[.agg #[.int .i64 G.terms, .int .i64 G.names, .int .i64 G.start, .slice Ap np cp, .slice Al nl cl, .slice As ns cs]] w fun e w' => e = .returned (.slice none 0 0) ∧ Below w.heap.size w w' := by
  obtain ⟨hb0, hs0, gb⟩ := gbox w G Ap Al As np cp nl cl ns cs
  obtain ⟨hp1, hp2⟩ := hG.p.len
  have hl3 := hG.lm; have hl4 := hG.sm
  have hcall := ok_any G Ap Al As np cp nl cl ns cs (w.alloc (.cells #[.int .i64 G.terms, .int .i64 G.names, .int .i64 G.start, .slice Ap np cp, .slice Al nl cl, .slice As ns cs] 30)) B (Nat.le_trans hB hb0.size) (hG.below (hb0.mono hB))
  rw [hk, hs0] at hcall
  have HC := Lib.hid hcall; have HB0 := Lib.hid hb0
  unfold maxLen at hp2 hl3 hl4
  clear hcall gb hG hk hp1 hb0 hs0
  go_enter Try.func20, Try.ntmps20
  go_wp2_with (go_at_call 18; refine HC.out.mono ?_; rintro e w' ⟨rfl, hb⟩)
  go_ret
  exact ⟨rfl, HB0.out.trans (hb.mono (Nat.le_succ _))⟩
/-- The table of First. -/
def frT (G : Gr) (N T : Nat) : List (List Bool) := rounds (stepF (rounds (stepG livS) G.prods N (b0 N)) (rounds (stepG empS) G.prods N (b0 N))) G.prods N (m0 N T)
theorem FirstT_good (G : Gr) (Ap Al As : Option Addr) (np cp nl cl ns cs : Nat) (w : World) (B N T : Nat) (hB : B ≤ w.heap.size) (hG : GrIn w B G Ap Al As np cp nl cl ns cs) (hk : GOk G) (hN : G.names = N) (hT : G.terms = T) :
    Calls Try.prog 20 #[.agg #[.int .i64 G.terms, .int .i64 G.names, .int .i64 G.start, .slice Ap np cp, .slice Al nl cl, .slice As ns cs]] w fun e w' => ∃ D, e = .returned (.slice (some ⟨D, 0, none⟩) N N) ∧ w.heap.size ≤ D ∧ LsSt w' D N (fun k => nums (rowB (frT G N T) k)) ∧ Below w.heap.size w w' := by
  obtain ⟨hb0, hs0, gb⟩ := gbox w G Ap Al As np cp nl cl ns cs
  obtain ⟨hp1, hp2⟩ := hG.p.len
  have hl3 := hG.lm; have hl4 := hG.sm
  have hcall := ok_any G Ap Al As np cp nl cl ns cs (w.alloc (.cells #[.int .i64 G.terms, .int .i64 G.names, .int .i64 G.start, .slice Ap np cp, .slice Al nl cl, .slice As ns cs] 30)) B (Nat.le_trans hB hb0.size) (hG.below (hb0.mono hB))
  rw [okB_t hk, hs0] at hcall
  have HC := Lib.hid hcall; have HB0 := Lib.hid hb0; have HGB := Lib.hid gb; have HG := Lib.hid (hG.below (hb0.mono hB))
  have HK := Lib.hid hk; have HN := Lib.hid hN; have HT := Lib.hid hT
  unfold maxLen at hp2 hl3 hl4
  clear hcall gb hG hk hp1 hb0 hs0 hN hT
  have hs0 : (w.alloc (.cells #[.int .i64 G.terms, .int .i64 G.names, .int .i64 G.start, .slice Ap np cp, .slice Al nl cl, .slice As ns cs] 30)).heap.size = w.heap.size + 1 := by simp
  go_enter Try.func20, Try.ntmps20
  go_wp2_with fail
  generalize w.alloc (.cells #[.int .i64 G.terms, .int .i64 G.names, .int .i64 G.start, .slice Ap np cp, .slice Al nl cl, .slice As ns cs] 30) = W0 at *
  refine HC.out.mono ?_
  rintro e w1 ⟨rfl, hb1⟩
  obtain ⟨c0, c1, c2, c3, c4, c5⟩ := HGB.out.below hb1 (Nat.lt_succ_self _)
  have hs1 := hb1.size
  have hF := firsts_any G Ap Al As np cp nl cl ns cs w1 B N T (by omega) (HG.out.below (hb1.mono (by omega))) HK.out HN.out HT.out
  have HF := Lib.hid hF; have HB1 := Lib.hid hb1
  clear hF hb1
  go_wp2_with fail
  refine HF.out.mono ?_
  rintro e w2 ⟨D, ρ, rfl, hD, hρ, hM, hb2⟩
  have hNN : N ≤ 300 := by have := HK.out.n1; have := HN.out; omega
  have hTT : T ≤ 300 := by have := HK.out.t1; have := HT.out; omega
  have hLs := lists_any D N T N ρ _ w2 hNN (by omega) hM.dl hM
  have HL := Lib.hid hLs
  have hs2 := hb2.size
  have HB2 := Lib.hid hb2
  clear hLs hM hb2 hρ
  go_wp2_with fail
  refine HL.out.mono ?_
  rintro e w3 ⟨E, rfl, hE, hL, hb3⟩
  have HL3 := Lib.hid hL; have HB3 := Lib.hid (HB0.out.trans (((HB1.out.mono (by omega)).trans (HB2.out.mono (by omega))).trans (hb3.mono (by omega))))
  clear hL hb3
  go_wp2
  go_ret
  exact ⟨E, rfl, by omega, HL3.out, HB3.out⟩
end Go.Proofs.Ytgfchgnebpogjaa
namespace Go.Proofs.Ytgfchgnebpogjaa
set_option linter.unusedVariables false
set_option linter.unusedSimpArgs false

theorem muB_set_eq : ∀ (l : List Bool) (k : Nat), k < l.length → bth l k = false → muB (l.set k true) + 1 = muB l
  | [], k, h, _ => by simp at h
  | b :: l, 0, _, h => by
    have : bth (b :: l) 0 = b := rfl
    rw [this] at h
    subst h
    simp [muB]; omega
  | b :: l, k + 1, h, hb => by
    have : bth (b :: l) (k + 1) = bth l k := by simp [bth]
    rw [this] at hb
    have := muB_set_eq l k (by simpa using h) hb
    unfold muB at this ⊢
    rw [List.set_cons_succ, List.map_cons, List.map_cons, List.sum_cons, List.sum_cons]
    omega
theorem bth_false_of_le {l : List Bool} {k : Nat} (h : l.length ≤ k) : bth l k = false := by
  unfold bth
  rw [List.getD_eq_getElem?_getD, List.getElem?_eq_none h]; rfl
theorem bth_lt {l : List Bool} {k : Nat} (h : bth l k = true) : k < l.length := by
  apply Classical.byContradiction
  intro hn
  rw [bth_false_of_le (by omega)] at h
  cases h
theorem muB_zero : ∀ {l : List Bool} {k : Nat}, muB l = 0 → k < l.length → bth l k = true
  | [], k, _, h => by simp at h
  | b :: l, k, h, hk => by
    unfold muB at h
    rw [List.map_cons, List.sum_cons] at h
    cases k with
    | zero =>
      show b = true
      cases b
      · simp at h
      · rfl
    | succ k =>
      have : bth (b :: l) (k + 1) = bth l k := by simp [bth]
      rw [this]
      exact muB_zero (l := l) (by unfold muB; omega) (by simpa using hk)
theorem set_true_bth {l : List Bool} {k j : Nat} (h : bth l j = true) : bth (l.set k true) j = true := by
  have := bth_lt h
  by_cases hk : k < l.length
  · rw [bth_set hk]; split <;> simp [h]
  · rw [List.set_eq_of_length_le (by omega)]; exact h
theorem set_true_at {l : List Bool} {k : Nat} (h : k < l.length) : bth (l.set k true) k = true := by rw [bth_set h, if_pos rfl]
theorem set_true_inv {l : List Bool} {k j : Nat} (h : bth (l.set k true) j = true) : j = k ∨ bth l j = true := by
  by_cases hk : k < l.length
  · rw [bth_set hk] at h
    split at h
    · rename_i e; exact .inl e.symm
    · exact .inr h
  · rw [List.set_eq_of_length_le (by omega)] at h; exact .inr h

section
variable (ps : List Pr) (lv : List Bool) (s : Nat)
/-- Within so many steps of the start. -/
def RchH : Nat → Nat → Prop
  | 0, X => X = s
  | h + 1, X => RchH h X ∨ ∃ p ∈ ps, p.2.1.all (livS lv) = true ∧ RchH h p.1.toNat ∧ ∃ t ∈ p.2.1, t < 0 ∧ X = (-1 - t).toNat
def RchN (X : Nat) : Prop := ∃ h, RchH ps lv s h X
variable {ps lv s}
theorem RchN.start : RchN ps lv s s := ⟨0, rfl⟩
theorem RchN.step {p : Pr} (hp : p ∈ ps) (hl : p.2.1.all (livS lv) = true) (h : RchN ps lv s p.1.toNat) {t : Int} (ht : t ∈ p.2.1) (h0 : t < 0) : RchN ps lv s (-1 - t).toNat := by
  obtain ⟨n, hn⟩ := h
  exact ⟨n + 1, .inr ⟨p, hp, hl, hn, t, ht, h0, rfl⟩⟩
/-- All that one step leads to is in. -/
def Clo (ps : List Pr) (lv x : List Bool) : Prop := ∀ p ∈ ps, p.2.1.all (livS lv) = true → bth x p.1.toNat = true → ∀ t ∈ p.2.1, t < 0 → bth x (-1 - t).toNat = true
theorem RchN.clo {x : List Bool} (hs : bth x s = true) (hc : Clo ps lv x) : ∀ {X : Nat}, RchN ps lv s X → bth x X = true := by
  have C : ∀ (h : Nat) (X : Nat), RchH ps lv s h X → bth x X = true := by
    intro h
    induction h with
    | zero => intro X hX; rw [show X = s from hX]; exact hs
    | succ h ih =>
      rintro X (hX | ⟨p, hp, hl, hX, t, ht, h0, rfl⟩)
      · exact ih X hX
      · exact hc p hp hl (ih _ hX) t ht h0
  rintro X ⟨h, hX⟩
  exact C h X hX
/-- u tells just the productions that are used. -/
def UsOk (ps : List Pr) (lv : List Bool) (s : Nat) (u : List Bool) : Prop := u.length = ps.length ∧ ∀ i, bth u i = true ↔ ∃ p, ps[i]? = some p ∧ p.2.1.all (livS lv) = true ∧ RchN ps lv s p.1.toNat
theorem UsOk.same {u u' : List Bool} (h : UsOk ps lv s u) (h' : UsOk ps lv s u') : u = u' := by
  apply List.ext_getElem (by rw [h.1, h'.1])
  intro i h1 h2
  rw [← bth_get h1, ← bth_get h2]
  exact Bool.eq_iff_iff.2 ((h.2 i).trans (h'.2 i).symm)

/-! ### the program's way: a list of names that wait -/
/-- The first k productions of X are through. -/
def Dn (ps : List Pr) (lv x u : List Bool) (X k : Nat) : Prop := ∀ i p, i < k → ps[i]? = some p → p.1.toNat = X → p.2.1.all (livS lv) = true → bth u i = true ∧ ∀ t ∈ p.2.1, t < 0 → bth x (-1 - t).toNat = true
theorem Dn.mono {x u x' u' : List Bool} {X k : Nat} (h : Dn ps lv x u X k) (hx : ∀ j, bth x j = true → bth x' j = true) (hu : ∀ j, bth u j = true → bth u' j = true) : Dn ps lv x' u' X k :=
  fun i p hi hp e hl => ⟨hu _ (h i p hi hp e hl).1, fun t ht h0 => hx _ ((h i p hi hp e hl).2 t ht h0)⟩
structure UsS (ps : List Pr) (lv : List Bool) (s N m : Nat) (x u : List Bool) (l : List Int) (n k : Nat) : Prop where
  xl : x.length = N
  ul : u.length = ps.length
  xs : bth x s = true
  snd : ∀ X, bth x X = true → RchN ps lv s X
  usd : ∀ i, bth u i = true → ∃ p, ps[i]? = some p ∧ p.2.1.all (livS lv) = true ∧ RchN ps lv s p.1.toNat
  lm : ∀ j ∈ l, 0 ≤ j ∧ j < (N : Int)
  lx : ∀ j ∈ l, bth x j.toNat = true
  cmp : ∀ X, bth x X = true → (X : Int) ∈ l ∨ (X = n ∧ Dn ps lv x u X k) ∨ Dn ps lv x u X ps.length
  mu : muB x + l.length = m
theorem UsS.start {N : Nat} (hs : s < N) : UsS ps lv s N (muB ((b0 N).set s true) + 1) ((b0 N).set s true) (List.replicate ps.length false) [(s : Int)] N 0 := by
  have hb : ∀ X, bth ((b0 N).set s true) X = true → X = s := fun X h => by
    rcases set_true_inv h with h | h
    · exact h
    · unfold b0 at h
      have hl := bth_lt h
      unfold bth at h
      rw [List.getD_eq_getElem?_getD, List.getElem?_replicate] at h
      split at h <;> simp at h
  refine ⟨by simp [b0], by simp, set_true_at (by simpa [b0] using hs), fun X h => by rw [hb X h]; exact RchN.start, fun i h => ?_, fun j hj => ?_, fun j hj => ?_, fun X h => .inl (by rw [hb X h]; simp), by simp⟩
  · have hl := bth_lt h
    unfold bth at h
    rw [List.getD_eq_getElem?_getD, List.getElem?_replicate] at h
    split at h <;> simp at h
  · simp at hj; subst hj; omega
  · simp at hj; subst hj; rw [Int.toNat_natCast]; exact set_true_at (by simpa [b0] using hs)
theorem UsS.pop {N m n : Nat} {x u : List Bool} {l : List Int} (h : UsS ps lv s N m x u (l ++ [(n : Int)]) N 0) : ∃ m', m = m' + 1 ∧ UsS ps lv s N m' x u l n 0 := by
  refine ⟨m - 1, by have := h.mu; simp at this; omega, h.xl, h.ul, h.xs, h.snd, h.usd, fun j hj => h.lm j (by simp [hj]), fun j hj => h.lx j (by simp [hj]), fun X hX => ?_, by have := h.mu; simp at this; omega⟩
  rcases h.cmp X hX with q | q | q
  · rw [List.mem_append, List.mem_singleton] at q
    rcases q with q | q
    · exact .inl q
    · exact .inr (.inl ⟨by omega, fun i p hi => absurd hi (by omega)⟩)
  · have := bth_lt hX
    have := h.xl
    omega
  · exact .inr (.inr q)
theorem UsS.through {N m n : Nat} {x u : List Bool} {l : List Int} (h : UsS ps lv s N m x u l n ps.length) : UsS ps lv s N m x u l N 0 :=
  ⟨h.xl, h.ul, h.xs, h.snd, h.usd, h.lm, h.lx, fun X hX => by
    rcases h.cmp X hX with q | q | q
    · exact .inl q
    · exact .inr (.inr q.2)
    · exact .inr (.inr q), h.mu⟩
/-- A production that is not of this name, or has no trees. -/
theorem UsS.skip {N m n k : Nat} {x u : List Bool} {l : List Int} {p : Pr} (h : UsS ps lv s N m x u l n k) (hp : ps[k]? = some p) (hno : p.1.toNat ≠ n ∨ p.2.1.all (livS lv) = false) : UsS ps lv s N m x u l n (k + 1) :=
  ⟨h.xl, h.ul, h.xs, h.snd, h.usd, h.lm, h.lx, fun X hX => by
    rcases h.cmp X hX with q | ⟨rfl, q⟩ | q
    · exact .inl q
    · refine .inr (.inl ⟨rfl, fun i p' hi hp' e hl => ?_⟩)
      by_cases e2 : i = k
      · subst e2
        rw [hp] at hp'
        obtain rfl := Option.some.inj hp'
        rcases hno with hno | hno
        · exact absurd e hno
        · rw [hno] at hl; cases hl
      · exact q i p' (by omega) hp' e hl
    · exact .inr (.inr q), h.mu⟩
theorem UsS.use {N m n k : Nat} {x u : List Bool} {l : List Int} {p : Pr} (h : UsS ps lv s N m x u l n k) (hp : ps[k]? = some p) (hl : p.2.1.all (livS lv) = true) (hr : RchN ps lv s p.1.toNat) : UsS ps lv s N m x (u.set k true) l n k :=
  ⟨h.xl, by rw [List.length_set]; exact h.ul, h.xs, h.snd, fun i hi => by
    rcases set_true_inv hi with rfl | hi
    · exact ⟨p, hp, hl, hr⟩
    · exact h.usd i hi, h.lm, h.lx, fun X hX => by
    rcases h.cmp X hX with q | ⟨e, q⟩ | q
    · exact .inl q
    · exact .inr (.inl ⟨e, q.mono (fun _ h => h) (fun _ h => set_true_bth h)⟩)
    · exact .inr (.inr (q.mono (fun _ h => h) (fun _ h => set_true_bth h))), h.mu⟩
theorem UsS.push {N m n k t : Nat} {x u : List Bool} {l : List Int} (h : UsS ps lv s N m x u l n k) (ht : t < N) (h0 : bth x t = false) (hr : RchN ps lv s t) : UsS ps lv s N m (x.set t true) u (l ++ [(t : Int)]) n k :=
  ⟨by rw [List.length_set]; exact h.xl, h.ul, set_true_bth h.xs, fun X hX => by
    rcases set_true_inv hX with rfl | hX
    · exact hr
    · exact h.snd X hX, h.usd, fun j hj => by
    rw [List.mem_append, List.mem_singleton] at hj
    rcases hj with hj | hj
    · exact h.lm j hj
    · subst hj; omega, fun j hj => by
    rw [List.mem_append, List.mem_singleton] at hj
    rcases hj with hj | hj
    · exact set_true_bth (h.lx j hj)
    · subst hj; rw [Int.toNat_natCast]; exact set_true_at (by rw [h.xl]; exact ht), fun X hX => by
    rcases set_true_inv hX with rfl | hX
    · exact .inl (by simp)
    · rcases h.cmp X hX with q | ⟨e, q⟩ | q
      · exact .inl (by simp [q])
      · exact .inr (.inl ⟨e, q.mono (fun _ h => set_true_bth h) (fun _ h => h)⟩)
      · exact .inr (.inr (q.mono (fun _ h => set_true_bth h) (fun _ h => h))), by
    have := muB_set_eq x t (by rw [h.xl]; exact ht) h0
    have := h.mu
    rw [List.length_append, List.length_singleton]; omega⟩
/-- The symbols of this production are through. -/
theorem UsS.next {N m n k : Nat} {x u : List Bool} {l : List Int} {p : Pr} (h : UsS ps lv s N m x u l n k) (hp : ps[k]? = some p) (hu : bth u k = true) (ht : ∀ t ∈ p.2.1, t < 0 → bth x (-1 - t).toNat = true) : UsS ps lv s N m x u l n (k + 1) :=
  ⟨h.xl, h.ul, h.xs, h.snd, h.usd, h.lm, h.lx, fun X hX => by
    rcases h.cmp X hX with q | ⟨rfl, q⟩ | q
    · exact .inl q
    · refine .inr (.inl ⟨rfl, fun i p' hi hp' e hl => ?_⟩)
      by_cases e2 : i = k
      · subst e2
        rw [hp] at hp'
        obtain rfl := Option.some.inj hp'
        exact ⟨hu, ht⟩
      · exact q i p' (by omega) hp' e hl
    · exact .inr (.inr q), h.mu⟩
theorem UsS.done {N m : Nat} {x u : List Bool} (h : UsS ps lv s N m x u [] N 0) : UsOk ps lv s u := by
  have hd : ∀ X, bth x X = true → Dn ps lv x u X ps.length := fun X hX => by
    rcases h.cmp X hX with q | q | q
    · cases q
    · have := bth_lt hX
      have := h.xl
      omega
    · exact q
  have hc : Clo ps lv x := fun p hp hl hx t ht h0 => by
    obtain ⟨i, hi, e⟩ := List.getElem_of_mem hp
    exact (hd _ hx i p hi (by rw [List.getElem?_eq_getElem hi, e]) rfl hl).2 t ht h0
  refine ⟨h.ul, fun i => ⟨h.usd i, fun ⟨p, hp, hl, hr⟩ => ?_⟩⟩
  exact (hd _ (RchN.clo h.xs hc hr) i p (List.getElem?_eq_some_iff.1 hp).1 hp rfl hl).1

/-! ### the document's way: so many passes -/
structure UrS (ps : List Pr) (lv : List Bool) (s N : Nat) (x0 x u : List Bool) (k : Nat) : Prop where
  xl : x.length = N
  ul : u.length = ps.length
  xs : bth x s = true
  snd : ∀ X, bth x X = true → RchN ps lv s X
  usd : ∀ i, bth u i = true → ∃ p, ps[i]? = some p ∧ p.2.1.all (livS lv) = true ∧ RchN ps lv s p.1.toNat
  sup : ∀ X, bth x0 X = true → bth x X = true
  ud : ∀ i p, i < k → ps[i]? = some p → p.2.1.all (livS lv) = true → bth x0 p.1.toNat = true → bth u i = true ∧ ∀ t ∈ p.2.1, t < 0 → bth x (-1 - t).toNat = true
  mu : x = x0 ∨ muB x < muB x0
/-- Between the passes. -/
structure UrR (ps : List Pr) (lv : List Bool) (s N r : Nat) (x u : List Bool) : Prop where
  xl : x.length = N
  ul : u.length = ps.length
  xs : bth x s = true
  snd : ∀ X, bth x X = true → RchN ps lv s X
  usd : ∀ i, bth u i = true → ∃ p, ps[i]? = some p ∧ p.2.1.all (livS lv) = true ∧ RchN ps lv s p.1.toNat
  cm : Clo ps lv x ∨ muB x + r ≤ N
  all : N < r → ∀ i p, ps[i]? = some p → p.2.1.all (livS lv) = true → RchN ps lv s p.1.toNat → bth u i = true
theorem muB_le : ∀ (l : List Bool), muB l ≤ l.length
  | [] => by simp [muB]
  | b :: l => by
    have := muB_le l
    unfold muB at this ⊢
    rw [List.map_cons, List.sum_cons, List.length_cons]
    split <;> omega
theorem UrR.start {N : Nat} (hs : s < N) : UrR ps lv s N 0 ((b0 N).set s true) (List.replicate ps.length false) := by
  have h := UsS.start (ps := ps) (lv := lv) hs
  exact ⟨h.xl, h.ul, h.xs, h.snd, h.usd, .inr (by have := muB_le ((b0 N).set s true); have := h.xl; omega), fun h => absurd h (by omega)⟩
theorem UrR.begin {N r : Nat} {x u : List Bool} (h : UrR ps lv s N r x u) : UrS ps lv s N x x u 0 :=
  ⟨h.xl, h.ul, h.xs, h.snd, h.usd, fun _ h => h, fun i p hi => absurd hi (by omega), .inl rfl⟩
theorem UrR.next {N r : Nat} {x0 x u0 u : List Bool} (h0 : UrR ps lv s N r x0 u0) (h : UrS ps lv s N x0 x u ps.length) : UrR ps lv s N (r + 1) x u := by
  have hcl : Clo ps lv x0 → Clo ps lv x := fun hc p hp hl hx t ht ht0 => by
    obtain ⟨i, hi, e⟩ := List.getElem_of_mem hp
    exact (h.ud i p hi (by rw [List.getElem?_eq_getElem hi, e]) hl (RchN.clo h0.xs hc (h.snd _ hx))).2 t ht ht0
  have hfix : x = x0 → Clo ps lv x0 := fun e p hp hl hx t ht ht0 => by
    obtain ⟨i, hi, e2⟩ := List.getElem_of_mem hp
    have := (h.ud i p hi (by rw [List.getElem?_eq_getElem hi, e2]) hl hx).2 t ht ht0
    rwa [e] at this
  refine ⟨h.xl, h.ul, h.xs, h.snd, h.usd, ?_, fun hr i p hp hl hR => ?_⟩
  · rcases h0.cm with hc | hc
    · exact .inl (hcl hc)
    · rcases h.mu with e | e
      · exact .inl (hcl (hfix e))
      · exact .inr (by omega)
  · have hc : Clo ps lv x0 := by
      rcases h0.cm with hc | hc
      · exact hc
      · intro p hp hl hx t ht ht0
        rcases Nat.lt_or_ge r N with q | q
        · omega
        · have h1 : muB x0 = 0 := by omega
          have h2 := h.snd _ (h.sup _ hx)
          rcases h.mu with e | e
          · exact hfix e p hp hl hx t ht ht0
          · omega
    exact (h.ud i p (List.getElem?_eq_some_iff.1 hp).1 hp hl (RchN.clo h0.xs hc hR)).1
theorem UrR.done {N : Nat} {x u : List Bool} (h : UrR ps lv s N (N + 1) x u) : UsOk ps lv s u :=
  ⟨h.ul, fun i => ⟨h.usd i, fun ⟨p, hp, hl, hr⟩ => h.all (by omega) i p hp hl hr⟩⟩
theorem UrS.skip {N k : Nat} {x0 x u : List Bool} {p : Pr} (h : UrS ps lv s N x0 x u k) (hp : ps[k]? = some p) (hno : p.2.1.all (livS lv) = false ∨ bth x p.1.toNat = false) : UrS ps lv s N x0 x u (k + 1) :=
  ⟨h.xl, h.ul, h.xs, h.snd, h.usd, h.sup, fun i p' hi hp' hl hx => by
    by_cases e : i = k
    · subst e
      rw [hp] at hp'
      obtain rfl := Option.some.inj hp'
      rcases hno with hno | hno
      · rw [hno] at hl; cases hl
      · rw [h.sup _ hx] at hno; cases hno
    · exact h.ud i p' (by omega) hp' hl hx, h.mu⟩
theorem UrS.use {N k : Nat} {x0 x u : List Bool} {p : Pr} (h : UrS ps lv s N x0 x u k) (hp : ps[k]? = some p) (hl : p.2.1.all (livS lv) = true) (hx : bth x p.1.toNat = true) : UrS ps lv s N x0 x (u.set k true) k :=
  ⟨h.xl, by rw [List.length_set]; exact h.ul, h.xs, h.snd, fun i hi => by
    rcases set_true_inv hi with rfl | hi
    · exact ⟨p, hp, hl, h.snd _ hx⟩
    · exact h.usd i hi, h.sup, fun i p' hi hp' hl hx => ⟨set_true_bth (h.ud i p' hi hp' hl hx).1, (h.ud i p' hi hp' hl hx).2⟩, h.mu⟩
theorem UrS.put {N k t : Nat} {x0 x u : List Bool} (h : UrS ps lv s N x0 x u k) (ht : t < N) (hr : RchN ps lv s t) : UrS ps lv s N x0 (x.set t true) u k :=
  ⟨by rw [List.length_set]; exact h.xl, h.ul, set_true_bth h.xs, fun X hX => by
    rcases set_true_inv hX with rfl | hX
    · exact hr
    · exact h.snd X hX, h.usd, fun X hX => set_true_bth (h.sup X hX), fun i p' hi hp' hl hx => ⟨(h.ud i p' hi hp' hl hx).1, fun t ht h0 => set_true_bth ((h.ud i p' hi hp' hl hx).2 t ht h0)⟩, by
    cases hb : bth x t
    · have := muB_set_eq x t (by rw [h.xl]; exact ht) hb
      rcases h.mu with e | e
      · subst e; exact .inr (by omega)
      · exact .inr (by omega)
    · have e : x.set t true = x := by
        apply List.ext_getElem (by simp)
        intro i h1 h2
        rw [List.getElem_set]
        split
        · rename_i e; subst e; rw [← bth_get h2]; exact hb.symm
        · rfl
      rw [e]; exact h.mu⟩
theorem UrS.next {N k : Nat} {x0 x u : List Bool} {p : Pr} (h : UrS ps lv s N x0 x u k) (hp : ps[k]? = some p) (hu : bth u k = true) (ht : ∀ t ∈ p.2.1, t < 0 → bth x (-1 - t).toNat = true) : UrS ps lv s N x0 x u (k + 1) :=
  ⟨h.xl, h.ul, h.xs, h.snd, h.usd, h.sup, fun i p' hi hp' hl hx => by
    by_cases e : i = k
    · subst e
      rw [hp] at hp'
      obtain rfl := Option.some.inj hp'
      exact ⟨hu, ht⟩
    · exact h.ud i p' (by omega) hp' hl hx, h.mu⟩
end
end Go.Proofs.Ytgfchgnebpogjaa
namespace Go.Proofs.Ytgfchgnebpogjaa
set_option linter.unusedVariables false
set_option linter.unusedSimpArgs false

/-- The symbols but that at k are all as asked. -/
def restB (EM : List Bool) (r : List Int) (k : Nat) : Bool := (r.take k ++ r.drop (k + 1)).all (empS EM)
/-- A production leads from a to b: at one of its first K places. -/
def EdK (LV EM : List Bool) (p : Pr) (K a b : Nat) : Prop :=
  p.2.1.all (livS LV) = true ∧ ∃ k, k < K ∧ k < p.2.1.length ∧ nth p.2.1 k < 0 ∧ p.1.toNat = a ∧ (-1 - nth p.2.1 k).toNat = b ∧ restB EM p.2.1 k = true
def Ed (LV EM : List Bool) (ps : List Pr) (a b : Nat) : Prop := ∃ p, p ∈ ps ∧ EdK LV EM p p.2.1.length a b
section
variable {LV EM : List Bool} {p : Pr} {K a b : Nat} {ps : List Pr}
theorem EdK.zero : ¬ EdK LV EM p 0 a b := fun ⟨_, k, h, _⟩ => by omega
theorem EdK.dead (h : p.2.1.all (livS LV) = false) : ¬ EdK LV EM p K a b := fun ⟨h1, _⟩ => by rw [h] at h1; cases h1
theorem EdK.succ (hw : p.2.1.all (livS LV) = true) (hK : K < p.2.1.length) : EdK LV EM p (K + 1) a b ↔ EdK LV EM p K a b ∨ (nth p.2.1 K < 0 ∧ p.1.toNat = a ∧ (-1 - nth p.2.1 K).toNat = b ∧ restB EM p.2.1 K = true) := by
  constructor
  · rintro ⟨_, k, h1, h2, h3⟩
    by_cases e : k = K
    · subst e; exact .inr h3
    · exact .inl ⟨hw, k, by omega, h2, h3⟩
  · rintro (⟨_, k, h1, h2⟩ | h)
    · exact ⟨hw, k, by omega, h2⟩
    · exact ⟨hw, K, by omega, hK, h⟩
theorem Ed.none : ¬ Ed LV EM (ps.take 0) a b := fun ⟨p, h, _⟩ => by simp at h
theorem Ed.snoc {m : Nat} (h : ps[m]? = some p) : Ed LV EM (ps.take (m + 1)) a b ↔ Ed LV EM (ps.take m) a b ∨ EdK LV EM p p.2.1.length a b := by
  obtain ⟨hm, rfl⟩ := List.getElem?_eq_some_iff.1 h
  unfold Ed
  rw [List.take_succ_eq_append_getElem hm]
  constructor
  · rintro ⟨q, hq, e⟩
    rcases List.mem_append.1 hq with h1 | h1
    · exact .inl ⟨q, h1, e⟩
    · rw [List.mem_singleton] at h1; subst h1; exact .inr e
  · rintro (⟨q, hq, e⟩ | e)
    · exact ⟨q, List.mem_append_left _ hq, e⟩
    · exact ⟨_, List.mem_append_right _ (List.mem_singleton.2 rfl), e⟩
end

/-! ### the document's rest: one symbol after another -/
def restJ (EM : List Bool) (r : List Int) (k j : Nat) : Bool := decide (nth r k < 0) && ((List.range j).all fun i => decide (i = k) || empS EM (nth r i))
theorem restJ_zero {EM : List Bool} {r : List Int} {k : Nat} : restJ EM r k 0 = decide (nth r k < 0) := by simp [restJ]
theorem restJ_succ {EM : List Bool} {r : List Int} {k j : Nat} : restJ EM r k (j + 1) = (restJ EM r k j && (decide (j = k) || empS EM (nth r j))) := by
  unfold restJ
  rw [List.range_succ, List.all_append, ← Bool.and_assoc]
  simp
theorem restJ_all {EM : List Bool} {r : List Int} {k : Nat} (hk : k < r.length) : restJ EM r k r.length = (decide (nth r k < 0) && restB EM r k) := by
  unfold restJ restB
  congr 1
  rw [Bool.eq_iff_iff, List.all_eq_true, List.all_eq_true]
  constructor
  · intro h x hx
    rcases List.mem_append.1 hx with h1 | h1
    · obtain ⟨i, hi, e⟩ := List.getElem_of_mem h1
      rw [List.length_take] at hi
      have := h i (List.mem_range.2 (by omega))
      rw [List.getElem_take] at e
      rw [nth_get (by omega), e] at this
      simpa [show i ≠ k by omega] using this
    · obtain ⟨i, hi, e⟩ := List.getElem_of_mem h1
      rw [List.length_drop] at hi
      have := h (k + 1 + i) (List.mem_range.2 (by omega))
      rw [List.getElem_drop] at e
      rw [nth_get (by omega), e] at this
      simpa [show k + 1 + i ≠ k by omega] using this
  · intro h i hi
    rw [List.mem_range] at hi
    by_cases e : i = k
    · simp [e]
    · have : empS EM (nth r i) = true := by
        apply h
        rw [nth_get hi]
        by_cases h2 : i < k
        · exact List.mem_append_left _ (List.mem_take_iff_getElem.2 ⟨i, by omega, rfl⟩)
        · exact List.mem_append_right _ (List.mem_drop_iff_getElem.2 ⟨i - (k + 1), by omega, by congr 1; omega⟩)
      simp [this]

/-! ### paths -/
inductive Pth (E : Nat → Nat → Prop) : Nat → Nat → Prop
  | one {a b : Nat} : E a b → Pth E a b
  | step {a b c : Nat} : Pth E a b → E b c → Pth E a c
section
variable {E : Nat → Nat → Prop}
theorem Pth.trans {a b c : Nat} (h : Pth E a b) (k : Pth E b c) : Pth E a c := by
  induction k with
  | one e => exact .step h e
  | step _ e ih => exact .step ih e
end

/-- Entry a, b of rows. -/
def ent (M : List (List Bool)) (a b : Nat) : Bool := bth (rowB M a) b
theorem ent_set {N : Nat} {M : List (List Bool)} (h : Rect N N M) {a b : Nat} (ha : a < N) (hb : b < N) {v : Bool} (c d : Nat) : ent (M.set a ((rowB M a).set b v)) c d = if a = c ∧ b = d then v else ent M c d := by
  unfold ent
  rw [rowB_set (by rw [h.1]; exact ha)]
  by_cases e : a = c
  · subst e
    rw [if_pos rfl, bth_set (by rw [h.2 a ha]; exact hb)]
    by_cases e2 : b = d <;> simp [e2]
  · rw [if_neg e, if_neg (fun q => e q.1)]
theorem ent_m0 {N a b : Nat} (ha : a < N) : ent (List.replicate N (List.replicate N false)) a b = false := by
  unfold ent rowB bth
  simp [List.getD, ha]
  by_cases h : b < N <;> simp [h]

/-- Rows say what leads where. -/
structure EdM (N : Nat) (E : Nat → Nat → Prop) (M : List (List Bool)) : Prop where
  rect : Rect N N M
  iff : ∀ a b, a < N → b < N → (ent M a b = true ↔ E a b)
theorem EdM.start {N : Nat} {E : Nat → Nat → Prop} (h : ∀ a b, ¬ E a b) : EdM N E (List.replicate N (List.replicate N false)) :=
  ⟨m0_rect N N, fun a b ha hb => by rw [ent_m0 ha]; exact ⟨fun q => (by cases q), fun q => absurd q (h a b)⟩⟩
theorem EdM.congr {N : Nat} {E E' : Nat → Nat → Prop} {M : List (List Bool)} (h : EdM N E M) (e : ∀ a b, E a b ↔ E' a b) : EdM N E' M := ⟨h.rect, fun a b ha hb => (h.iff a b ha hb).trans (e a b)⟩
theorem EdM.put {N : Nat} {E E' : Nat → Nat → Prop} {M : List (List Bool)} (h : EdM N E M) {a b : Nat} (ha : a < N) (hb : b < N) (e : ∀ c d, E' c d ↔ E c d ∨ (a = c ∧ b = d)) : EdM N E' (M.set a ((rowB M a).set b true)) :=
  ⟨h.rect.set ha (by rw [List.length_set]; exact h.rect.2 a ha), fun c d hc hd => by
    rw [ent_set h.rect ha hb, e c d]
    by_cases q : a = c ∧ b = d
    · simp [q]
    · rw [if_neg q, h.iff c d hc hd]; simp [q]⟩

/-! ### Floyd and Warshall -/
/-- Row a is over but for the places from b on, in the round of m. -/
def fwE (M0 : List (List Bool)) (m a b c d : Nat) : Bool := ent M0 c d || (decide (c < a ∨ (c = a ∧ d < b)) && ent M0 c m && ent M0 m d)
structure FwS (N : Nat) (M0 M : List (List Bool)) (m a b : Nat) : Prop where
  rect : Rect N N M
  e : ∀ c d, c < N → d < N → ent M c d = fwE M0 m a b c d
section
variable {N : Nat} {M0 M : List (List Bool)} {m a b : Nat}
theorem FwS.start (h : Rect N N M0) : FwS N M0 M0 m 0 0 := ⟨h, fun c d _ _ => by simp [fwE]⟩
theorem FwS.row (h : FwS N M0 M m a N) : FwS N M0 M m (a + 1) 0 := ⟨h.rect, fun c d hc hd => by
  rw [h.e c d hc hd]
  unfold fwE
  congr 3
  rw [decide_eq_decide]
  omega⟩
/-- What is read there. -/
theorem FwS.ab (h : FwS N M0 M m a b) (ha : a < N) (hb : b < N) : ent M a b = ent M0 a b := by
  rw [h.e a b ha hb]; unfold fwE; simp
theorem FwS.am (h : FwS N M0 M m a b) (ha : a < N) (hm : m < N) : ent M a m = ent M0 a m := by
  rw [h.e a m ha hm]; unfold fwE
  cases ent M0 a m <;> simp
theorem FwS.mb (h : FwS N M0 M m a b) (hm : m < N) (hb : b < N) : ent M m b = ent M0 m b := by
  rw [h.e m b hm hb]; unfold fwE
  cases ent M0 m b <;> simp
theorem FwS.next (h : FwS N M0 M m a b) (ha : a < N) (hb : b < N) : FwS N M0 (M.set a ((rowB M a).set b (ent M0 a b || (ent M0 a m && ent M0 m b)))) m a (b + 1) :=
  ⟨h.rect.set ha (by rw [List.length_set]; exact h.rect.2 a ha), fun c d hc hd => by
    rw [ent_set h.rect ha hb]
    by_cases q : a = c ∧ b = d
    · obtain ⟨rfl, rfl⟩ := q
      rw [if_pos ⟨rfl, rfl⟩]
      unfold fwE
      simp
    · rw [if_neg q, h.e c d hc hd]
      unfold fwE
      congr 3
      rw [decide_eq_decide]
      omega⟩
/-- Closed: what leads over a name less than m is in. -/
structure FwR (N : Nat) (E : Nat → Nat → Prop) (M : List (List Bool)) (m : Nat) : Prop where
  rect : Rect N N M
  sound : ∀ a b, a < N → b < N → ent M a b = true → Pth E a b
  inn : ∀ a b, a < N → b < N → E a b → ent M a b = true
  cl : ∀ i, i < m → i < N → ∀ a b, a < N → b < N → ent M a i = true → ent M i b = true → ent M a b = true
variable {E : Nat → Nat → Prop}
theorem FwR.start (h : EdM N E M) : FwR N E M 0 := ⟨h.rect, fun a b ha hb q => .one ((h.iff a b ha hb).1 q), fun a b ha hb q => (h.iff a b ha hb).2 q, fun i hi => absurd hi (by omega)⟩
theorem FwR.next (h : FwR N E M0 m) (hm : m < N) (k : FwS N M0 M m N 0) : FwR N E M (m + 1) := by
  have he : ∀ c d, c < N → d < N → ent M c d = (ent M0 c d || (ent M0 c m && ent M0 m d)) := fun c d hc hd => by
    rw [k.e c d hc hd]; unfold fwE; simp [hc]
  refine ⟨k.rect, fun a b ha hb q => ?_, fun a b ha hb q => ?_, fun i hi hiN a b ha hb q1 q2 => ?_⟩
  · rw [he a b ha hb] at q
    simp only [Bool.or_eq_true, Bool.and_eq_true] at q
    rcases q with q | ⟨q1, q2⟩
    · exact h.sound a b ha hb q
    · exact (h.sound a m ha hm q1).trans (h.sound m b hm hb q2)
  · rw [he a b ha hb, h.inn a b ha hb q]; rfl
  · rw [he a i ha hiN] at q1
    rw [he i b hiN hb] at q2
    rw [he a b ha hb]
    simp only [Bool.or_eq_true, Bool.and_eq_true] at q1 q2 ⊢
    by_cases e : i = m
    · subst e
      refine .inr ⟨?_, ?_⟩
      · rcases q1 with q | q
        · exact q
        · exact q.1
      · rcases q2 with q | q
        · exact q
        · exact q.2
    · have hc := h.cl i (by omega) hiN
      rcases q1 with q1 | ⟨q1, q1'⟩
      · rcases q2 with q2 | ⟨q2, q2'⟩
        · exact .inl (hc a b ha hb q1 q2)
        · exact .inr ⟨hc a m ha hm q1 q2, q2'⟩
      · rcases q2 with q2 | ⟨q2, q2'⟩
        · exact .inr ⟨q1, hc m b hm hb q1' q2⟩
        · exact .inr ⟨q1, q2'⟩
theorem FwR.done (h : FwR N E M N) (hE : ∀ a b, E a b → a < N ∧ b < N) {a b : Nat} (ha : a < N) : ent M a b = true ∧ b < N ↔ Pth E a b := by
  constructor
  · rintro ⟨q, hb⟩; exact h.sound a b ha hb q
  · intro q
    induction q with
    | one e => exact ⟨h.inn _ _ ha (hE _ _ e).2 e, (hE _ _ e).2⟩
    | step p e ih => exact ⟨h.cl _ (hE _ _ e).1 (hE _ _ e).1 _ _ ha (hE _ _ e).2 ih.1 (h.inn _ _ (hE _ _ e).1 (hE _ _ e).2 e), (hE _ _ e).2⟩
end

theorem b0_nth {N k : Nat} : bth (b0 N) k = false := by
  unfold b0 bth
  rw [List.getD_eq_getElem?_getD, List.getElem?_replicate]
  split <;> rfl
/-! ### a list that waits -/
/-- Names seen from n, names that wait; x: the one whose edges are gone through, done: which of its edges are over. -/
structure DfS (E : Nat → Nat → Prop) (N n : Nat) (seen : List Bool) (todo : List Int) (x : Option Nat) (dn : Nat → Prop) (m : Nat) : Prop where
  len : seen.length = N
  snd : ∀ b, bth seen b = true → Pth E n b
  wt : ∀ t ∈ todo, 0 ≤ t ∧ t.toNat < N ∧ (t.toNat = n ∨ bth seen t.toNat = true)
  xs : ∀ a, x = some a → a < N ∧ (a = n ∨ bth seen a = true)
  cl : ∀ a b, (a = n ∨ bth seen a = true) → (a : Int) ∉ todo → E a b → bth seen b = true ∨ (x = some a ∧ ¬ dn b)
  mu : todo.length + muB seen ≤ m
section
variable {E : Nat → Nat → Prop} {N n m : Nat} {seen : List Bool} {todo : List Int} {dn : Nat → Prop}
theorem DfS.start (hn : n < N) : DfS E N n (b0 N) [(n : Int)] none dn (N + 1) := by
  refine ⟨by simp [b0], fun b h => ?_, fun t ht => ?_, fun a h => (by cases h), fun a b h1 h2 h3 => ?_, by rw [muB_b0]; simp; omega⟩
  · rw [b0_nth] at h; cases h
  · rw [List.mem_singleton] at ht; subst ht; exact ⟨by omega, by omega, .inl rfl⟩
  · rcases h1 with rfl | h1
    · exact absurd (List.mem_singleton.2 rfl) h2
    · rw [b0_nth] at h1; cases h1
theorem DfS.pop {a : Nat} (h : DfS E N n seen (todo ++ [(a : Int)]) none dn (m + 1)) : DfS E N n seen todo (some a) (fun _ => False) m := by
  have ha := h.wt (a : Int) (by simp)
  rw [Int.toNat_natCast] at ha
  refine ⟨h.len, h.snd, fun t ht => h.wt t (List.mem_append_left _ ht), fun b e => by cases e; exact ha.2, fun c b h1 h2 h3 => ?_, ?_⟩
  · by_cases e : c = a
    · subst e; exact .inr ⟨rfl, fun q => q⟩
    · rcases h.cl c b h1 (by rw [List.mem_append, List.mem_singleton]; rintro (q | q); exact h2 q; omega) h3 with q | q
      · exact .inl q
      · cases q.1
  · have := h.mu; rw [List.length_append, List.length_singleton] at this; omega
/-- An edge to what is seen. -/
theorem DfS.old {a b : Nat} {dn' : Nat → Prop} (h : DfS E N n seen todo (some a) dn m) (hb : bth seen b = true) (hd : ∀ c, dn' c → dn c ∨ c = b) : DfS E N n seen todo (some a) dn' m :=
  ⟨h.len, h.snd, h.wt, h.xs, fun c d h1 h2 h3 => by
    rcases h.cl c d h1 h2 h3 with q | ⟨q1, q2⟩
    · exact .inl q
    · by_cases e : dn' d
      · rcases hd d e with q | q
        · exact absurd q q2
        · subst q; exact .inl hb
      · exact .inr ⟨q1, e⟩, h.mu⟩
/-- An edge to what is new. -/
theorem DfS.new {a b : Nat} {dn' : Nat → Prop} (h : DfS E N n seen todo (some a) dn m) (hE : E a b) (hbN : b < N) (hb : bth seen b = false) (hd : ∀ c, dn' c → dn c ∨ c = b) : DfS E N n (seen.set b true) (todo ++ [(b : Int)]) (some a) dn' m := by
  have hb' : b < seen.length := by rw [h.len]; exact hbN
  have hset : ∀ c, bth (seen.set b true) c = true ↔ b = c ∨ bth seen c = true := fun c => by
    rw [bth_set hb']
    by_cases e : b = c <;> simp [e]
  have hp : Pth E n b := by
    rcases (h.xs a rfl).2 with e | e
    · subst e; exact .one hE
    · exact .step (h.snd a e) hE
  refine ⟨by rw [List.length_set]; exact h.len, fun c hc => ?_, fun t ht => ?_, fun c e => ?_, fun c d h1 h2 h3 => ?_, ?_⟩
  · rcases (hset c).1 hc with rfl | q
    · exact hp
    · exact h.snd c q
  · rw [List.mem_append, List.mem_singleton] at ht
    rcases ht with ht | rfl
    · obtain ⟨x1, x2, x3⟩ := h.wt t ht
      exact ⟨x1, x2, x3.imp id fun q => (hset _).2 (.inr q)⟩
    · exact ⟨by omega, by omega, .inr ((hset _).2 (.inl (by omega)))⟩
  · obtain ⟨x1, x2⟩ := h.xs c e
    exact ⟨x1, x2.imp id fun q => (hset _).2 (.inr q)⟩
  · have h2' : (c : Int) ∉ todo := fun q => h2 (List.mem_append_left _ q)
    have hcb : c ≠ b := fun e => h2 (by subst e; simp)
    have h1' : c = n ∨ bth seen c = true := by
      rcases h1 with e | e
      · exact .inl e
      · rcases (hset c).1 e with q | q
        · exact absurd q.symm hcb
        · exact .inr q
    rcases h.cl c d h1' h2' h3 with q | ⟨q1, q2⟩
    · exact .inl ((hset d).2 (.inr q))
    · by_cases e : dn' d
      · rcases hd d e with q | q
        · exact absurd q q2
        · exact .inl ((hset d).2 (.inl q.symm))
      · exact .inr ⟨q1, e⟩
  · have := muB_set seen b hb' hb
    have := h.mu
    rw [List.length_append, List.length_singleton]; omega
theorem DfS.close {a : Nat} {dn' : Nat → Prop} (h : DfS E N n seen todo (some a) dn m) (hd : ∀ b, E a b → dn b) : DfS E N n seen todo none dn' m :=
  ⟨h.len, h.snd, h.wt, fun _ e => (by cases e), fun c d h1 h2 h3 => by
    rcases h.cl c d h1 h2 h3 with q | ⟨q1, q2⟩
    · exact .inl q
    · cases q1; exact absurd (hd d h3) q2, h.mu⟩
theorem DfS.done (h : DfS E N n seen [] none dn m) {b : Nat} : bth seen b = true ↔ Pth E n b := by
  constructor
  · exact h.snd b
  · intro q
    have key : ∀ a c, (a = n ∨ bth seen a = true) → E a c → bth seen c = true := fun a c h1 h3 => by
      rcases h.cl a c h1 (by simp) h3 with q | q
      · exact q
      · cases q.1
    induction q with
    | one e => exact key _ _ (.inl rfl) e
    | step _ e ih => exact key _ _ (.inr ih) e
end
end Go.Proofs.Ytgfchgnebpogjaa
namespace Go.Proofs.Ytgfchgnebpogjaa
open Go.RowKit BigFrame
set_option linter.unusedVariables false
set_option linter.unusedSimpArgs false
set_option maxRecDepth 100000

theorem growN_len {ps : List Prd} {N : Nat} {f : List Bool → Int → Bool} (n : Nat) : (rounds (stepG f) ps n (b0 N)).length = N := rounds_keep (Q := fun x : List Bool => x.length = N) (fun k p y hp hy => by rw [stepG_len]; exact hy) (by simp [b0]) n

/-- A slice of integers read at one place. -/
theorem RdI.get1 {w : World} {B : Nat} {A : Option Addr} {l : List Int} (h : RdI w B A l) {k : Nat} (hk : k < l.length) :
    ∃ b off, A = some ⟨b, off, none⟩ ∧ b < B ∧ w.cell? ⟨b, off + k, none⟩ = some (.int .i64 (nth l k)) := by
  obtain ⟨b, off, e, hb, hc⟩ := h.at_ (by omega)
  exact ⟨b, off, e, hb, hc k hk⟩

set_option maxHeartbeats 4000000 in
theorem rUsed_any (G : Gr) (Ap Al As : Option Addr) (np cp nl cl ns cs : Nat) (w : World) (B N : Nat) (hB : B ≤ w.heap.size) (hG : GrIn w B G Ap Al As np cp nl cl ns cs) (hk : GOk G) (hN : G.names = N) :
    Calls Try.prog 28 #[.agg #[.int .i64 G.terms, .int .i64 G.names, .int .i64 G.start, .slice Ap np cp, .slice Al nl cl, .slice As ns cs]] w fun e w' => ∃ g u, e = .returned (.slice (some ⟨g, 0, none⟩) np np) ∧ w.heap.size ≤ g ∧ Blk w' g 4 (bv u) ∧ UsOk G.prods (rounds (stepG livS) G.prods N (b0 N)) G.start.toNat u ∧ Below w.heap.size w w' := by
  obtain ⟨LV, hLV⟩ : ∃ LV, LV = rounds (stepG livS) G.prods N (b0 N) := ⟨_, rfl⟩
  rw [← hLV]
  have hLVl : LV.length = N := by rw [hLV]; exact growN_len N
  have HLV := Lib.hid hLV; clear hLV
  obtain ⟨hb0, hs0, gb⟩ := gbox w G Ap Al As np cp nl cl ns cs
  obtain ⟨hp1, hp2⟩ := hG.p.len
  have hl3 := hG.lm; have hl4 := hG.sm
  have hn0 := hk.n0; have hn1 := hk.n1; have hp4 := hk.p
  have hNN : N ≤ 300 := by omega
  have hnp : np ≤ 400 := by omega
  have hN0 : 0 < N := by omega
  have hst0 := hk.s0; have hst1 := hk.s1
  obtain ⟨X, hX⟩ := Int.eq_ofNat_of_zero_le hst0
  have hXN : X < N := by omega
  rw [show G.start.toNat = X by omega]
  have HX := Lib.hid hX
  unfold maxLen at hp2 hl3 hl4
  have HB0 := Lib.hid hb0; have HGB := Lib.hid gb; have HG := Lib.hid (hG.below (hb0.mono hB)); have HK := Lib.hid hk; have HN := Lib.hid hN; have HP1 := Lib.hid hp1
  have HFIT := Lib.hid (fun p (hp : p ∈ G.prods) => prFitg hk hp hN)
  have hs0 : (w.alloc (.cells #[.int .i64 G.terms, .int .i64 G.names, .int .i64 G.start, .slice Ap np cp, .slice Al nl cl, .slice As ns cs] 30)).heap.size = w.heap.size + 1 := by simp
  have HMK := Lib.hid (fun w : World => mk_row elBg rfl .i64 .i64 N _ rfl (by omega) (by omega) w)
  have HMK2 := Lib.hid (fun w : World => mk_row elBg rfl .i64 .i64 np _ rfl (by omega) (by omega) w)
  clear gb hG hk hp1 hb0 hN hX hst0 hst1
  go_enter Try.func28, Try.ntmps28
  go_wp2_with fail
  generalize w.alloc (.cells #[.int .i64 G.terms, .int .i64 G.names, .int .i64 G.start, .slice Ap np cp, .slice Al nl cl, .slice As ns cs] 30) = W0 at *
  refine (rLivesT_any G Ap Al As np cp nl cl ns cs W0 B N (by omega) HG.out HK.out HN.out).mono ?_
  rintro e w1 ⟨gl, rfl, hgl, hbl, hb1⟩
  rw [← HLV.out] at hbl
  have HBL := Lib.hid hbl; have HB1 := Lib.hid hb1
  obtain ⟨c0, c1, c2, c3, c4, c5⟩ := HGB.out.below hb1 (by omega)
  rw [HN.out] at c1
  rw [HX.out] at c2
  have hs1 := hb1.size
  have hgl1 := hbl.lt
  clear hbl hb1
  have hmk := HMK.out
  go_upto_region 3 with (fail)
  clear hmk
  have hblk := Blk.made w1 4 (.bool false) N
  rw [bv_rep] at hblk
  have HB2 := Lib.hid (HB1.out.alloc HB1.out.size (.cells (zs (.bool false) N) 4))
  have HBL2 := Lib.hid (HBL.out.alloc (.cells (zs (.bool false) N) 4))
  obtain ⟨W2, hW2⟩ : ∃ W2, W2 = w1.alloc (.cells (zs (.bool false) N) 4) := ⟨_, rfl⟩
  rw [← hW2] at hblk HB2 HBL2 ⊢
  have hs2 : W2.heap.size = w1.heap.size + 1 := by rw [hW2]; simp
  clear hW2
  obtain ⟨ga, hga⟩ : ∃ ga, ga = w1.heap.size := ⟨_, rfl⟩
  rw [← hga] at hblk ⊢
  have hga1 : w.heap.size + 1 ≤ ga := by omega
  have hga2 : ga < W2.heap.size := by omega
  have hgla : gl < ga := by omega
  have hs2' : w.heap.size + 1 ≤ W2.heap.size := by omega
  clear hga hs2 hs1
  obtain ⟨c0, c1, c2, c3, c4, c5⟩ := HGB.out.below HB2.out (by omega)
  rw [HN.out] at c1
  rw [HX.out] at c2
  have z1 := hblk.bcell (k := X) (by simpa using hXN)
  have z2 := hblk.frozen X
  generalize hv : bth (List.replicate N false) X = v0 at z1
  have HBK := Lib.hid hblk
  clear hblk hv
  have hmk := HMK2.out
  go_upto_region 5 with (fail)
  clear hmk
  have hu := Blk.made (W2.setCell ⟨ga, X, none⟩ (.bool true)) 4 (.bool false) np
  rw [bv_rep, setCell_size] at hu
  have ha := (HBK.out.bset X true).alloc (.cells (zs (.bool false) np) 4)
  have HB3 := Lib.hid ((HB2.out.setCell (p := ⟨ga, X, none⟩) (by rw [hs0]; exact hga1) (.bool true)).alloc (by rw [setCell_size, hs0]; exact hs2') (.cells (zs (.bool false) np) 4))
  have hl := (HBL2.out.far (p := ⟨ga, X, none⟩) (Nat.ne_of_lt hgla) (.bool true)).alloc (.cells (zs (.bool false) np) 4)
  obtain ⟨W3, hW3⟩ : ∃ W3, W3 = (W2.setCell ⟨ga, X, none⟩ (.bool true)).alloc (.cells (zs (.bool false) np) 4) := ⟨_, rfl⟩
  rw [← hW3] at hu ha HB3 hl ⊢
  clear hW3
  obtain ⟨gu, hgu⟩ : ∃ gu, gu = W2.heap.size := ⟨_, rfl⟩
  rw [← hgu] at hu hga2 hs2' ⊢
  have HA := Lib.hid ha; have HU := Lib.hid hu; have HL := Lib.hid hl
  have hu3 := hu.lt
  clear hu ha hl hgu z1 z2 c0 c1 c2 c3 c4 c5 HBK HBL2 HB2
  have hgua : ga ≠ gu := by omega
  have hglu : gl ≠ ga ∧ gl ≠ gu := by omega
  rw [hs0] at HB3
  have key : ∀ wr, Kp (fun j => j = ga ∨ j = gu) W3 wr → Below (w.heap.size + 1) W0 wr ∧ Blk wr gl 4 (bv LV) ∧ GrBox wr w.heap.size G Ap Al As np cp nl cl ns cs ∧ GrIn wr B G Ap Al As np cp nl cl ns cs ∧ B ≤ wr.heap.size ∧ w.heap.size + 1 ≤ wr.heap.size := fun wr h => by
    have hz := HB3.out.size
    have hb := HB3.out.trans (h.bel (B := w.heap.size + 1) (by omega) (fun j hj e => by omega))
    have hz2 := hb.size
    exact ⟨hb, (h.block gl HL.out.lt (by omega)).trans HL.out, HGB.out.below hb (by omega), HG.out.below (hb.mono (by omega)), by omega, by omega⟩
  have KEY := Lib.hid key; clear key
  go_wp2_with fail
  go_loopw [6] (fun i wr => ∃ r : Nat, r ≤ N + 1 ∧ i = .int .i64 r ∧ Hid (Kp (fun j => j = ga ∨ j = gu) W3 wr) ∧ ∃ x u : List Bool, Hid (Blk wr ga 4 (bv x) ∧ Blk wr gu 4 (bv u) ∧ UrR G.prods LV X N r x u)) (fun i _ => N + 1 - (intOf i).toNat)
  case atStart => exact ⟨0, Nat.zero_le _, rfl, Kp.refl _ _, _, _, HA.out, HU.out, by have h := UrR.start (ps := G.prods) (lv := LV) hXN; rw [HP1.out] at h; exact h⟩
  case round =>
    as_aux_lemma =>
      obtain ⟨r, hr, rfl, HW, x, u, HS⟩ := hrel
      obtain ⟨hb4, k1, ⟨c0, c1, c2, c3, c4, c5⟩, k2, k3, k4⟩ := KEY.out wr HW.out
      rw [HN.out] at c1
      by_cases hlt : r ≤ N
      · as_aux_lemma =>
          clear hb4 k1 k2
          go_wp2_with fail
          obtain ⟨wo, rfl⟩ : ∃ wo : World, wo = wr := ⟨_, rfl⟩
          clear c0 c1 c2 c3 c4 c5
          go_loopw [7] (fun i wr' => ∃ m : Nat, m ≤ np ∧ i = .int .i64 m ∧ Hid (Kp (fun j => j = ga ∨ j = gu) W3 wr') ∧ ∃ x1 u1 : List Bool, Hid (Blk wr' ga 4 (bv x1) ∧ Blk wr' gu 4 (bv u1) ∧ UrS G.prods LV X N x x1 u1 m)) (fun i _ => np - (intOf i).toNat)
          case atStart => exact ⟨0, Nat.zero_le _, rfl, HW.out, x, u, HS.out.1, HS.out.2.1, HS.out.2.2.begin⟩
          case round =>
            as_aux_lemma =>
              have HUR : Hid (UrR G.prods LV X N r x u) := Lib.hid HS.out.2.2
              clear HW HS k3 k4
              obtain ⟨m, hm, rfl, HW, x1, u1, HS⟩ := hrel
              obtain ⟨hb4, k1, ⟨c0, c1, c2, c3, c4, c5⟩, k2, k3, k4⟩ := KEY.out wr HW.out
              by_cases hlt2 : m < np
              · as_aux_lemma =>
                  obtain ⟨p, hpm⟩ : ∃ p, G.prods[m]? = some p := ⟨_, List.getElem?_eq_getElem (by rw [HP1.out]; exact hlt2)⟩
                  obtain ⟨px, rr, py⟩ := p
                  have HC := Lib.hid (rWhole_any G Ap Al As np cp nl cl ns cs wr B N m gl LV k3 k2 HK.out HN.out (px, rr, py) hpm k1 hLVl)
                  have HPM := Lib.hid hpm
                  clear hb4 k1 k2 hpm
                  go_wp2_with fail
                  refine HC.out.mono ?_
                  rintro e w4 ⟨rfl, hb4⟩
                  have HW4 := Lib.hid (HW.out.trans (Kp.of hb4))
                  have HX4 := Lib.hid (HS.out.1.below' hb4)
                  have HU4 := Lib.hid (HS.out.2.1.below' hb4)
                  have HS4 := Lib.hid HS.out.2.2
                  clear HC HW HS c0 c1 c2 c3 c4 c5 hb4 k3 k4
                  obtain ⟨hb5, k1, ⟨c0, c1, c2, c3, c4, c5⟩, k2, k3, k4⟩ := KEY.out w4 HW4.out
                  obtain ⟨hf0, hf1, hf2⟩ := HFIT.out _ (mem_of_get HPM.out)
                  simp only at hf0 hf1 hf2
                  obtain ⟨t, rfl⟩ := Int.eq_ofNat_of_zero_le hf0
                  rw [Int.toNat_natCast] at hf1
                  obtain ⟨b, off, rfl, hb, hc⟩ := k2.p.at_ (by omega)
                  obtain ⟨px', r', py', A', n', c', hq, z0, z1, z2, g1, g2, g3, g4⟩ := hc m hlt2
                  rw [HPM.out] at hq
                  simp only [Option.some.injEq, Prod.mk.injEq] at hq
                  obtain ⟨rfl, rfl, rfl⟩ := hq
                  have HCL : Hid (∀ wr, Below (w.heap.size + 1) W0 wr → wr.cell? ⟨b, off + m * 3 + 1, none⟩ = some (.slice A' n' c') ∧ RdI wr B A' rr) := Lib.hid (fun wr h => by
                    have e1 := h.cell (p := ⟨b, off + m * 3 + 1, none⟩) (by show b < _; omega)
                    have e2 := hb5.cell (p := ⟨b, off + m * 3 + 1, none⟩) (by show b < _; omega)
                    refine ⟨e1.trans (e2.symm.trans z1), Rd.keep g4 (fun p hp => ?_)⟩
                    exact (h.cell (p := p) (by omega)).trans (hb5.cell (p := p) (by omega)).symm)
                  have zx := HX4.out.bcell (k := t) (by rw [HS4.out.xl]; exact hf1)
                  have zu := HU4.out.bcell (k := m) (by rw [HS4.out.ul, HP1.out]; exact hlt2)
                  have zuf := HU4.out.frozen m
                  have HR := Lib.hid g1; have HF2 := Lib.hid hf2
                  unfold maxLen at g3
                  clear hb5 k1 k2 hc g1 g4 hf2 hf0
                  generalize bth u1 m = vu at zu
                  simp only
                  cases hall : rr.all (livS LV)
                  · as_aux_lemma =>
                      have HNX := Lib.hid (HS4.out.skip HPM.out (.inl hall))
                      clear hall zx zu zuf
                      go_wp2_with fail
                      go_roundw
                      case rel => exact ⟨m + 1, by omega, by go_num, HW4.out, x1, u1, HX4.out, HU4.out, HNX.out⟩
                      case measure => simp [intOf]; omega
                  · cases hxt : bth x1 t
                    · as_aux_lemma =>
                        have HNX := Lib.hid (HS4.out.skip HPM.out (.inr (by simpa using hxt)))
                        rw [hxt] at zx
                        clear hall zu zuf hxt
                        go_wp2_with fail
                        go_roundw
                        case rel => exact ⟨m + 1, by omega, by go_num, HW4.out, x1, u1, HX4.out, HU4.out, HNX.out⟩
                        case measure => simp [intOf]; omega
                    · as_aux_lemma =>
                        have HNX := Lib.hid (HS4.out.use HPM.out hall (by simpa using hxt))
                        have HRN : Hid (∀ s ∈ rr, s < 0 → RchN G.prods LV X (-1 - s).toNat) := Lib.hid (fun s hs h0 => RchN.step (mem_of_get HPM.out) hall (HS4.out.snd _ (by simpa using hxt)) hs h0)
                        rw [hxt] at zx
                        clear hall hxt
                        go_wp2_with fail
                        have HW5 := Lib.hid (HW4.out.set_ (p := ⟨gu, m, none⟩) (.inr (.inr rfl)) (.bool true))
                        have HX5 := Lib.hid (HX4.out.far (p := ⟨gu, m, none⟩) hgua (.bool true))
                        have HU5 := Lib.hid (HU4.out.bset m true)
                        clear zx zu zuf z0 z1 z2 c0 c1 c2 c3 c4 c5 HS4 HX4 HU4 HW4
                        obtain ⟨wo2, rfl⟩ : ∃ wo2 : World, wo2 = w4.setCell ⟨gu, m, none⟩ (.bool true) := ⟨_, rfl⟩
                        go_loopw [9] (fun i wr' => ∃ j : Nat, j ≤ n' ∧ i = .int .i64 j ∧ Hid (Kp (fun j => j = ga ∨ j = gu) W3 wr') ∧ ∃ x2 : List Bool, Hid (Blk wr' ga 4 (bv x2) ∧ Blk wr' gu 4 (bv (u1.set m true)) ∧ UrS G.prods LV X N x x2 (u1.set m true) m ∧ ∀ k, k < j → nth rr k < 0 → bth x2 (-1 - nth rr k).toNat = true)) (fun i _ => n' - (intOf i).toNat)
                        case atStart => exact ⟨0, Nat.zero_le _, rfl, HW5.out, x1, HX5.out, HU5.out, HNX.out, fun k h => absurd h (by omega)⟩
                        case round =>
                          as_aux_lemma =>
                            clear HW5 HX5 HU5 HNX
                            obtain ⟨j, hj, rfl, HW, x2, HS⟩ := hrel
                            obtain ⟨hb5, k1, ⟨c0, c1, c2, c3, c4, c5⟩, k2, k3, k4⟩ := KEY.out wr HW.out
                            obtain ⟨zp, hrd⟩ := HCL.out wr hb5
                            clear k1 k2 hb5
                            by_cases hjn : j < n'
                            · as_aux_lemma =>
                                obtain ⟨b', off', rfl, hb', zr⟩ := hrd.get1 (k := j) (by rw [HR.out]; exact hjn)
                                have hmem := mem_nth (l := rr) (k := j) (by rw [HR.out]; exact hjn)
                                have hf2 := HF2.out _ hmem
                                have hrn := HRN.out _ hmem
                                have hstep : ∀ x3 : List Bool, (∀ i, bth x2 i = true → bth x3 i = true) → (nth rr j < 0 → bth x3 (-1 - nth rr j).toNat = true) → ∀ k, k < j + 1 → nth rr k < 0 → bth x3 (-1 - nth rr k).toNat = true := fun x3 h1 h2 k hk h0 => by
                                  by_cases e : k = j
                                  · subst e; exact h2 h0
                                  · exact h1 _ (HS.out.2.2.2 k (by omega) h0)
                                have HST := Lib.hid hstep
                                clear hstep hmem
                                generalize nth rr j = s at zr hf2 hrn HST
                                by_cases hs : s < 0
                                · obtain ⟨t2, ht1⟩ : ∃ t2 : Nat, t2 = (-1 - s).toNat := ⟨_, rfl⟩
                                  have ht := hf2 hs
                                  have hrn := hrn hs
                                  rw [← ht1] at ht hrn HST
                                  have hts : -1 - s = (t2 : Int) := by omega
                                  have zx := HS.out.1.bcell (k := t2) (by rw [HS.out.2.2.1.xl]; exact ht)
                                  have zxf := HS.out.1.frozen t2
                                  have HN2 := Lib.hid (HS.out.2.2.1.put ht hrn)
                                  have HX2 := Lib.hid (HS.out.1.bset t2 true)
                                  have HU2 := Lib.hid (HS.out.2.1.far (p := ⟨ga, t2, none⟩) (Ne.symm hgua) (.bool true))
                                  have HST2 := Lib.hid (HST.out (x2.set t2 true) (fun i h => set_true_bth h) (fun _ => set_true_at (by rw [HS.out.2.2.1.xl]; exact ht)))
                                  generalize bth x2 t2 = vx at zx
                                  clear hf2 hrn HST ht1
                                  go_wp2_with fail
                                  go_roundw
                                  case rel => exact ⟨j + 1, by omega, by go_num, HW.out.set_ (p := ⟨ga, t2, none⟩) (.inr (.inl rfl)) _, x2.set t2 true, HX2.out, HU2.out, HN2.out, HST2.out⟩
                                  case measure => simp [intOf]; omega
                                · have HST2 := Lib.hid (HST.out x2 (fun i h => h) (fun h => absurd h hs))
                                  have ds : decide (s < 0) = false := decide_eq_false hs
                                  clear hf2 hrn HST
                                  go_wp2_with fail
                                  go_roundw
                                  case rel => exact ⟨j + 1, by omega, by go_num, HW.out, x2, HS.out.1, HS.out.2.1, HS.out.2.2.1, HST2.out⟩
                                  case measure => simp [intOf]; omega
                            · as_aux_lemma =>
                                have HN3 : Hid (UrS G.prods LV X N x x2 (u1.set m true) (m + 1)) := Lib.hid (HS.out.2.2.1.next HPM.out (set_true_at (by
                                  have h1 := HS.out.2.2.1.ul
                                  rw [List.length_set] at h1
                                  rw [h1, HP1.out]; exact hlt2)) (fun s hs h0 => by
                                  obtain ⟨k, hk, e⟩ := List.getElem_of_mem hs
                                  have := HS.out.2.2.2 k (by have := HR.out; simp only at hk; omega) (by rw [nth_get hk, e]; exact h0)
                                  rwa [nth_get hk, e] at this))
                                clear hrd
                                go_wp2_with fail
                                go_roundw
                                case rel => exact ⟨m + 1, by omega, by go_num, HW.out, x2, u1.set m true, HS.out.1, HS.out.2.1, HN3.out⟩
                                case measure => simp [intOf]; omega
              · as_aux_lemma =>
                  have hmn : m = G.prods.length := by rw [HP1.out]; omega
                  have HNX : Hid (UrR G.prods LV X N (r + 1) x1 u1) := Lib.hid (HUR.out.next (by rw [← hmn]; exact HS.out.2.2))
                  clear hmn k1 k2 hb4
                  go_wp2
                  go_roundw
                  case rel => exact ⟨r + 1, by omega, by go_num, HW.out, x1, u1, HS.out.1, HS.out.2.1, HNX.out⟩
                  case measure => simp [intOf]; omega
      · as_aux_lemma =>
          obtain rfl : r = N + 1 := by omega
          have HF := Lib.hid (HB0.out.trans (hb4.mono (by omega)))
          clear k1 k2 hb4
          go_wp2
          go_ret
          exact ⟨gu, u, rfl, by omega, HS.out.2.1, HS.out.2.2.done, HF.out⟩
end Go.Proofs.Ytgfchgnebpogjaa
