/- Plain: the document's classes, stretch by stretch. No program here. · append of whatever slice reads (nil too) to a row of the call's own. -/
import Derived.Test.YthikgdogfkjioaaGreatDoorQ4
import Derived.Test.YthikgdogfkjioaaGreatDoorQ2
import Derived.Lib.AppendZeros
namespace Go.Proofs.YthikgdogfkjioaaGreatDoor
set_option linter.unusedVariables false
set_option linter.unusedSimpArgs false

theorem fst_grow {c : List Rg} {lo hi : Int} (h : c ≠ []) : fstR (growR c lo hi) = fstR c := by
  rcases List.eq_nil_or_concat c with rfl | ⟨l0, ⟨x, y⟩, rfl⟩
  · exact absurd rfl h
  · rw [List.concat_eq_append, growR_snoc]
    split
    · cases l0 <;> rfl
    · cases l0 <;> rfl
theorem grow_ne {c : List Rg} {lo hi : Int} : growR c lo hi ≠ [] := by
  rcases List.eq_nil_or_concat c with rfl | ⟨l0, ⟨x, y⟩, rfl⟩
  · rw [growR_nil]; simp
  · rw [List.concat_eq_append, growR_snoc]
    split <;> simp
structure ClS (S R : List (List Rg)) (f : Int) : Prop where
  each : ∀ c ∈ R, c ≠ [] ∧ isPt (fstR c) = true ∧ GwS c (clP S (fstR c)) f
  all : ∀ p, 0 ≤ p → p < f → ∃ c ∈ R, memR c p = true
  asc : R.Pairwise fun a b => fstR a < fstR b
theorem ClS.start {S : List (List Rg)} : ClS S [] 0 := ⟨fun c h => (by cases h), fun p h1 h2 => (by omega), List.Pairwise.nil⟩
theorem ClS.lt {S R : List (List Rg)} {f : Int} (h : ClS S R f) {c : List Rg} (hc : c ∈ R) : fstR c < f := by
  obtain ⟨a, b, g⟩ := h.each c hc
  have := (fst_mem g.can a).1
  rw [g.mem] at this
  simp at this
  exact this.1
theorem ClS.in_ {S R : List (List Rg)} {f : Int} (h : ClS S R f) {c : List Rg} (hc : c ∈ R) {p : Int} (hp : isPt p = true) (hf : p < f) (hs : sig S p = sig S (fstR c)) : memR c p = true := by
  obtain ⟨a, b, g⟩ := h.each c hc
  rw [g.mem]; unfold clP; simp [hp, hf, hs]
theorem ClS.one {S R : List (List Rg)} {f : Int} (h : ClS S R f) {c d : List Rg} (hc : c ∈ R) (hd : d ∈ R) (hs : sig S (fstR c) = sig S (fstR d)) : fstR c = fstR d := by
  obtain ⟨a, b, g⟩ := h.each c hc
  obtain ⟨a2, b2, g2⟩ := h.each d hd
  have h1 := (fst_mem g.can a).2 _ (h.in_ hc b2 (h.lt hd) hs.symm)
  have h2 := (fst_mem g2.can a2).2 _ (h.in_ hd b (h.lt hc) hs)
  omega
theorem pairwise_set {R : List (List Rg)} {j : Nat} {c : List Rg} (hj : j < R.length) (h : R.Pairwise fun a b => fstR a < fstR b) (e : fstR c = fstR R[j]) : (R.set j c).Pairwise fun a b => fstR a < fstR b := by
  rw [List.pairwise_iff_getElem] at h ⊢
  intro i k hi hk hik
  simp only [List.length_set] at hi hk
  have := h i k hi hk hik
  rw [List.getElem_set, List.getElem_set]
  split
  · rename_i q; subst q
    rw [if_neg (by omega), e]; exact this
  · split
    · rename_i q; subst q; rw [e]; exact this
    · exact this
/-- A stretch that is like a class. -/
theorem ClS.grow {S R : List (List Rg)} {f g : Int} {j : Nat} (h : ClS S R f) (h0 : 0 ≤ f) (hfg : f < g) (hg : g ≤ MP + 1) (hc : ∀ p, f ≤ p → p < g → sig S p = sig S f) (hj : j < R.length) (hs : sig S (fstR R[j]) = sig S f) :
    ClS S (R.set j (growR R[j] f (g - 1))) g := by
  have hjm := List.getElem_mem hj
  have hE := h.each _ hjm
  have hpt : ∀ p, f ≤ p → p < g → isPt p = true := fun p a b => by unfold isPt; simp; omega
  have hnew : GwS (growR R[j] f (g - 1)) (clP S (fstR R[j])) g := hE.2.2.yes hfg h0 hg (fun p a b => by unfold clP; rw [hpt p a b, hc p a b, hs]; simp)
  have hf := fst_grow (c := R[j]) (lo := f) (hi := g - 1) hE.1
  refine ⟨fun c hcm => ?_, fun p a b => ?_, pairwise_set hj h.asc hf⟩
  · obtain ⟨i, hi, rfl⟩ := List.getElem_of_mem hcm
    simp only [List.length_set] at hi
    rw [List.getElem_set]
    split
    · exact ⟨grow_ne, by rw [hf]; exact hE.2.1, by rw [hf]; exact hnew⟩
    · rename_i q
      have hI := h.each _ (List.getElem_mem hi)
      refine ⟨hI.1, hI.2.1, hI.2.2.no hfg fun p a b => ?_⟩
      have hne : sig S p ≠ sig S (fstR R[i]) := fun e => by
        have e2 : sig S (fstR R[j]) = sig S (fstR R[i]) := by rw [hs, ← hc p a b, e]
        have e3 := h.one hjm (List.getElem_mem hi) e2
        have ha := h.asc
        rw [List.pairwise_iff_getElem] at ha
        rcases Nat.lt_or_ge i j with k | k
        · have := ha i j hi hj k; omega
        · have := ha j i hj hi (by omega); omega
      unfold clP
      simp [hne]
  · by_cases q : p < f
    · obtain ⟨c, hcm, k⟩ := h.all p a q
      obtain ⟨i, hi, rfl⟩ := List.getElem_of_mem hcm
      by_cases e : j = i
      · subst e
        refine ⟨growR R[j] f (g - 1), List.mem_iff_getElem.2 ⟨j, by simpa using hj, by simp⟩, ?_⟩
        rw [hnew.mem]
        have k2 := k
        rw [hE.2.2.mem] at k2
        simp at k2 ⊢
        exact ⟨by omega, k2.2⟩
      · exact ⟨R[i], List.mem_iff_getElem.2 ⟨i, by simpa using hi, by rw [List.getElem_set, if_neg e]⟩, k⟩
    · refine ⟨growR R[j] f (g - 1), List.mem_iff_getElem.2 ⟨j, by simpa using hj, by simp⟩, ?_⟩
      rw [hnew.mem]
      unfold clP
      rw [hpt p (by omega) b, hc p (by omega) b, hs]
      simp [b]
/-- A stretch that is like none. -/
theorem ClS.new {S R : List (List Rg)} {f g : Int} (h : ClS S R f) (h0 : 0 ≤ f) (hfg : f < g) (hg : g ≤ MP + 1) (hc : ∀ p, f ≤ p → p < g → sig S p = sig S f) (hs : ∀ c ∈ R, sig S (fstR c) ≠ sig S f) :
    ClS S (R ++ [[(f, g - 1)]]) g := by
  have hpt : ∀ p, f ≤ p → p < g → isPt p = true := fun p a b => by unfold isPt; simp; omega
  have hnone : GwS [] (clP S f) f := ⟨trivial, fun p => by
    rw [memR_nil]
    by_cases q : p < f
    · have : clP S f p = false := by
        unfold clP
        cases hp : isPt p
        · rfl
        · have h1 : 0 ≤ p := by unfold isPt at hp; simp at hp; exact hp.1
          obtain ⟨c, hcm, k⟩ := h.all p h1 q
          obtain ⟨a, b, gg⟩ := h.each c hcm
          rw [gg.mem] at k
          unfold clP at k
          simp at k
          have hne := hs c hcm
          rw [← k.2.2] at hne
          simp [hne]
      rw [this]; simp
    · simp [q], fun r hr => by cases hr⟩
  have hnew : GwS [(f, g - 1)] (clP S f) g := hnone.yes hfg h0 hg (fun p a b => by unfold clP; rw [hpt p a b, hc p a b]; simp)
  refine ⟨fun c hcm => ?_, fun p a b => ?_, ?_⟩
  · rw [List.mem_append, List.mem_singleton] at hcm
    rcases hcm with hcm | rfl
    · have hI := h.each c hcm
      refine ⟨hI.1, hI.2.1, hI.2.2.no hfg fun p a b => ?_⟩
      have hne : sig S p ≠ sig S (fstR c) := fun e => hs c hcm (by rw [← e, hc p a b])
      unfold clP
      simp [hne]
    · exact ⟨by simp, hpt f (Int.le_refl _) hfg, hnew⟩
  · by_cases q : p < f
    · obtain ⟨c, hcm, k⟩ := h.all p a q
      exact ⟨c, by simp [hcm], k⟩
    · refine ⟨[(f, g - 1)], by simp, ?_⟩
      rw [hnew.mem]
      unfold clP
      rw [hpt p (by omega) b, hc p (by omega) b]
      simp [b]
  · rw [List.pairwise_append]
    refine ⟨h.asc, List.pairwise_singleton _ _, fun a ha b hb => ?_⟩
    rw [List.mem_singleton] at hb
    subst hb
    exact h.lt ha
theorem ClS.done {S R : List (List Rg)} (h : ClS S R (MP + 1)) : Parted S R :=
  ⟨fun c hc => ⟨fstR c, (h.each c hc).2.1, (h.each c hc).2.2.done fun p hp => by unfold clP isPt; simp; intro; omega⟩,
   fun p hp => h.all p (by unfold isPt at hp; simp at hp; exact hp.1) (by unfold isPt at hp; simp at hp; omega), h.asc⟩
/-- Between two edges of all sets nothing changes. -/
theorem sig_const {S : List (List Rg)} {e : List Int} (he : EdgO e) (hb : ∀ s ∈ S, ∀ r ∈ s, EdgB e r) {i : Nat} (hi : i + 1 < e.length) {p : Int} (h1 : e[i] ≤ p) (h2 : p < e[i + 1]) : sig S p = sig S e[i] := by
  unfold sig
  exact List.map_congr_left fun s hs => edg_const he (hb s hs) hi h1 h2
end Go.Proofs.YthikgdogfkjioaaGreatDoor
namespace Go.Proofs.YthikgdogfkjioaaGreatDoor
open Go.RowKit
set_option linter.unusedVariables false
set_option linter.unusedSimpArgs false
set_option maxRecDepth 100000

section
variable {P : Program} {t e : TypeId} {size bytes : Nat} {z : Value}

theorem run_app_zero (E : ElTy P t e size bytes z) (ty : TypeId) (w : World) (A : Option Addr) (n cap : Nat) (hc : n ≤ cap) (A' : Option Addr) (c : Nat) :
    (Builtin.append_ #[t, t] ty #[.slice A n cap, .slice A' 0 c]).run P w = .ok (.slice A n cap) w := by
  obtain ⟨i, hi, hz, hsz, hby⟩ := info_parts E.hi
  cases A <;> cases A' <;> simp [Builtin.append_, run_underlying E.ht, sizeOf, typeInfo, hi, Builtin.lenOf, Builtin.firstCells, loadCells, loadCellsFrom, storeCells, hc]

theorem wpList_app_rd (E : ElTy P t e size bytes z) {ops : Array Oper} {rest : List Oper} {o : Oper} {a : Act} {Q : Exit → Act → World → Prop} {w : World} (hgd : o.guard = none) (s x : Operand)
    (ho : o.op = .call { callee := .builtin .append, args := #[s, x], argTypes := #[t, t] })
    (base : Nat) (v : Value) (n m c B : Nat) (A : Option Addr) (xs news : List Value) (hs : a.eval s = v) (hown : w.ownsRow base e size v n xs)
    (hx : a.eval x = .slice A m c) (hl : news.length = m * size) (hr : Rd w B A news) (h1 : ∀ u ∈ news, u.oneCell' = true)
    (h63 : n + m ≤ 140737488355328) (hbytes : (n + m) * bytes ≤ 140737488355328) (hbase : base ≤ w.heap.size)
    (h : ∀ v' w', w'.ownsRow base e size v' (n + m) (xs ++ news) → w.grownBy w' v.ownBlock → (v'.ownBlock = v.ownBlock ∨ v'.ownBlock = some w.heap.size) → wpList P ops Q rest (a.put o.dst v') w') :
    wpList P ops Q (o :: rest) a w := by
  obtain ⟨i, hi, hz, hsz, hby⟩ := info_parts E.hi
  by_cases hm : m = 0
  · subst hm
    obtain rfl : news = [] := List.eq_nil_of_length_eq_zero (by simpa using hl)
    obtain ⟨A1, n1, c1, hv, hle⟩ : ∃ A1 n1 c1, v = .slice A1 n1 c1 ∧ n1 ≤ c1 := by
      rcases hown.2 with ⟨rfl, rfl⟩ | ⟨g, cap, cur, rfl, _, _, hn, _⟩
      · exact ⟨_, _, _, rfl, Nat.le_refl _⟩
      · exact ⟨_, _, _, rfl, hn⟩
    subst hv
    refine Lib.wpList_append_run w hgd s x t t ho _ _ hs hx _ w (run_app_zero E o.type w A1 n1 c1 hle A c) (h _ w ?_ ⟨rfl, rfl, rfl, Nat.le_refl _, fun _ _ _ => rfl⟩ (Or.inl rfl))
    rw [List.append_nil]; exact hown
  · have hne : news ≠ [] := by
      intro e0; subst e0
      have := E.hs
      have : 0 < m * size := Nat.mul_pos (by omega) this
      simp at hl; omega
    obtain ⟨b, off, rfl, hb, hc⟩ := hr hne
    refine wpList_append_own_at _ hgd s x t ho base e i z size bytes E.ht hi hz hsz hby E.hz E.hs v n xs hs hown ⟨b, off, none⟩ m c news hx hl (fun j u hu => ?_) h1 (by simp only [maxLen]; omega) hbytes hbase ?_
    · have hadd : (⟨b, off, none⟩ : Addr).add j = ⟨b, off + j, none⟩ := by unfold Addr.add; split <;> simp_all
      rw [hadd]; exact hc j u hu
    · intro v' w' h2 h3 _ h5
      exact h v' w' h2 h3 h5
end

theorem iv_one (l : List Int) : ∀ u ∈ iv l, u.oneCell' = true := by
  intro u hu
  unfold iv at hu
  rw [List.mem_map] at hu
  obtain ⟨x, _, rfl⟩ := hu
  rfl
end Go.Proofs.YthikgdogfkjioaaGreatDoor
