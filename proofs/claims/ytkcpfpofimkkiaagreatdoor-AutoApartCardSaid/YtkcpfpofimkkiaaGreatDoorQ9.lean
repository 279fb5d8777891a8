/- The document's sets: grow. · The document's sets: Both, Canon, All. · The document's sets: Canon, All, SameSet, Size. -/
import Derived.Test.YtkcpfpofimkkiaaGreatDoorQ8
import Derived.StillTail
namespace Go.Proofs.YtkcpfpofimkkiaaGreatDoor
open Go.RowKit BigFrame
set_option linter.unusedVariables false
set_option linter.unusedSimpArgs false
set_option maxRecDepth 100000

theorem rv_cons1 (lo hi : Int) : rv [(lo, hi)] = [.int .i64 lo, .int .i64 hi] := rfl
set_option maxHeartbeats 1000000 in
theorem grow_any (base : Nat) (v : Value) (l : List Rg) (lo hi : Int) (w : World) (ho : OwG w base v l) (hb : base ≤ w.heap.size) (hn : l.length ≤ 100000) (hbd : ∀ r ∈ l, -1 ≤ r.2 ∧ r.2 ≤ 1114111) :
    Calls Tryz.prog 64 #[v, .int .i64 lo, .int .i64 hi] w fun e w' => ∃ v', e = .returned v' ∧ OwG w' base v' (growR l lo hi) ∧ Below base w w' := by
  have hap : ∀ (v' : Value) (w' : World) (l' : List Rg) (n : Nat), w'.ownsRow base 62 2 v' (n + 1) (rv l ++ [.int .i64 lo, .int .i64 hi]) → n = l.length → l' = l ++ [(lo, hi)] → OwG w' base v' l' := fun v' w' l' n h hnl e => by
    subst e; subst hnl
    have e2 : rv l ++ [.int .i64 lo, .int .i64 hi] = rv (l ++ [(lo, hi)]) := by rw [rv_append]; rfl
    rw [e2] at h
    have e3 : (l ++ [(lo, hi)]).length = l.length + 1 := by simp
    unfold OwG; rw [e3]; exact h
  have HAP := Lib.hid hap
  clear hap
  rcases List.eq_nil_or_concat l with hl | ⟨l0, ⟨x, y⟩, hl⟩
  · obtain ⟨A, c, rfl, hc1, hc2, _⟩ := ho.form
    have hz : l.length = 0 := by rw [hl]; rfl
    have HG := Lib.hid (show growR l lo hi = l ++ [(lo, hi)] by rw [hl]; rfl)
    unfold OwG at ho
    rw [hz] at ho hc1 ⊢
    have HZ := Lib.hid hz; have HO := Lib.hid ho
    clear ho hz hl
    go_enter Tryz.func64, Tryz.ntmps64
    go_wp2_with (first
       | (at_builtin; refine wpList_app elRg rfl (.tmp 29) (.tmp 33) rfl base _ 0 1 (rv l) [.int .i64 lo, .int .i64 hi] rfl HO.out rfl rfl (by simp [Value.oneCell']) (by decide) (by decide) hb ?_; intro v2 w2 hown2 hg2 hat2; have HW2 := Lib.hid hown2; have HB2 := Lib.hid ((Below.refl base w).grown hg2 hb (fun k e => own_base HO.out k e)); clear hown2 hg2 hat2))
    go_ret
    exact ⟨_, rfl, HAP.out _ _ _ _ HW2.out HZ.out.symm HG.out, HB2.out⟩
  · rw [List.concat_eq_append] at hl
    have hll : l.length = l0.length + 1 := by rw [hl]; simp
    obtain ⟨g, cap, rfl, hg1, hg2, hg3, hfz, hcs, hst⟩ := ho.blk (by omega)
    obtain ⟨A, c, e2, hc1, hc2, _⟩ := ho.form
    simp only [Value.slice.injEq] at e2
    obtain ⟨rfl, _, rfl⟩ := e2
    unfold maxLen at hc2
    have hnth : nthR l l0.length = (x, y) := by rw [nthR_get (by omega)]; subst hl; simp
    obtain ⟨c1, c2⟩ := hcs l0.length (by omega)
    have hst2 := hst l0.length hi (by omega)
    rw [hnth] at c1 c2 hst2
    simp only at c1 c2 hst2
    have hset : l.set l0.length (x, hi) = l0 ++ [(x, hi)] := by rw [hl, List.set_append_right _ _ (Nat.le_refl _), Nat.sub_self]; rfl
    rw [hset] at hst2
    have hbx := hbd (x, y) (by rw [hl]; simp)
    simp only at hbx
    obtain ⟨hb1, hb2⟩ := hbx
    have hg := growR_snoc l0 x y lo hi
    rw [← hl] at hg
    have f2 := hfz (l0.length * 2 + 1)
    unfold OwG at ho hst2
    have hset2 : (l0 ++ [(x, hi)]).length = l0.length + 1 := by simp
    rw [hset2] at hst2
    have HL1 := Lib.hid hll
    rw [hll] at hc1 ho hst2 ⊢
    have HO := Lib.hid ho; have HST := Lib.hid hst2
    have hm : l0.length ≤ 100000 := by omega
    have HM2 := Lib.hid (show ∃ m, m = l0.length from ⟨_, rfl⟩)
    clear ho hcs hst hst2 hset hset2 hnth hfz hl
    generalize hmm : l0.length = m at *
    have HMM := Lib.hid hmm
    clear hmm
    by_cases he : y + 1 = lo
    · have d1 : (y + 1 == lo) = true := by simpa using he
      rw [if_pos he] at hg
      have HG := Lib.hid hg
      clear hg he
      go_enter Tryz.func64, Tryz.ntmps64
      go_wp2
      go_ret
      have e3 : (l0 ++ [(x, hi)]).length = m + 1 := by rw [List.length_append, HMM.out]; rfl
      refine ⟨_, rfl, ?_, (Below.refl base w).setCell hg2 _⟩
      unfold OwG
      rw [HG.out, e3]
      exact HST.out
    · have d1 : (y + 1 == lo) = false := by simpa using he
      rw [if_neg he] at hg
      have HG := Lib.hid hg
      clear hg he
      go_enter Tryz.func64, Tryz.ntmps64
      go_wp2_with (first
         | (at_builtin; refine wpList_app elRg rfl (.tmp 29) (.tmp 33) rfl base _ (m + 1) 1 (rv l) [.int .i64 lo, .int .i64 hi] rfl HO.out rfl rfl (by simp [Value.oneCell']) (by omega) (by omega) hb ?_; intro v2 w2 hown2 hg2 hat2; have HW2 := Lib.hid hown2; have HB2 := Lib.hid ((Below.refl base w).grown hg2 hb (fun k e => own_base HO.out k e)); clear hown2 hg2 hat2))
      go_ret
      exact ⟨_, rfl, HAP.out _ _ _ _ HW2.out HL1.out.symm HG.out, HB2.out⟩
end Go.Proofs.YtkcpfpofimkkiaaGreatDoor
namespace Go.Proofs.YtkcpfpofimkkiaaGreatDoor
open Go.RowKit BigFrame
set_option linter.unusedVariables false
set_option linter.unusedSimpArgs false
set_option maxRecDepth 100000

theorem CanF.bd : ∀ {l : List Rg} {f : Int}, CanF f l → ∀ r ∈ l, f ≤ r.1 ∧ r.1 ≤ r.2 ∧ r.2 ≤ MP
  | [], _, _, r, hr => by cases hr
  | (a, b) :: t, f, h, r, hr => by
    obtain ⟨h1, h2, h3, h4⟩ := h
    rcases List.mem_cons.1 hr with rfl | q
    · exact ⟨h1, h2, h3⟩
    · have := CanF.bd h4 r q; omega
theorem growR_len {out : List Rg} {lo hi : Int} : (growR out lo hi).length ≤ out.length + 1 := by
  rcases List.eq_nil_or_concat out with rfl | ⟨l0, ⟨x, y⟩, rfl⟩
  · rw [growR_nil]; simp
  · rw [List.concat_eq_append, growR_snoc]
    split <;> simp
theorem nth_mem {l : List Int} {k : Nat} (h : k < l.length) : nth l k ∈ l := by rw [nth_get h]; exact List.getElem_mem h
theorem asc_nth {l : List Int} (h : Asc l) {i j : Nat} (hij : i < j) (hj : j < l.length) : nth l i < nth l j := by
  unfold Asc at h
  rw [List.pairwise_iff_getElem] at h
  rw [nth_get hj, nth_get (by omega)]
  exact h i j (by omega) hj hij
theorem edg_first {e : List Int} (h : EdgO e) : nth e 0 = 0 := by
  obtain ⟨j, hj, hz⟩ := List.getElem_of_mem h.z
  rcases Nat.eq_zero_or_pos j with rfl | q
  · rw [nth_get hj]; exact hz
  · have h1 := asc_nth h.asc q hj
    rw [nth_get hj, hz] at h1
    have h2 := h.bd _ (nth_mem (l := e) (k := 0) (by omega))
    omega
theorem edg_last {e : List Int} (h : EdgO e) {k : Nat} (hk : k + 1 = e.length) : nth e k = MP + 1 := by
  obtain ⟨j, hj, hz⟩ := List.getElem_of_mem h.t
  rcases Nat.lt_or_ge j k with q | q
  · have h1 := asc_nth h.asc q (show k < e.length by omega)
    rw [nth_get hj, hz] at h1
    have h2 := h.bd _ (nth_mem (l := e) (k := k) (by omega))
    omega
  · obtain rfl : j = k := by omega
    rw [nth_get hj]; exact hz
theorem edg_two {e : List Int} (h : EdgO e) : 2 ≤ e.length := by
  apply Classical.byContradiction
  intro q
  have h1 := h.z
  have h2 := h.t
  match e, q with
  | [], _ => cases h1
  | [x], _ => simp at h1 h2; unfold MP at h2; omega
  | x :: y :: t, q => simp at q
/-- The points wanted. -/
def bothP (how : Int) (l l2 : List Rg) (p : Int) : Bool := wantB how (inR l p) (inR l2 p)
theorem inR_low {l : List Rg} {p : Int} (h : p < 0) : inR l p = false := by
  unfold inR isPt; simp; omega
theorem inR_high {l : List Rg} {p : Int} (h : MP < p) : inR l p = false := by
  unfold inR isPt; simp; omega
theorem both_step {how : Int} {l l2 : List Rg} {e : List Int} {out : List Rg} {k : Nat} (he : EdgO e) (h1 : ∀ r ∈ l, EdgB e r) (h2 : ∀ r ∈ l2, EdgB e r) (hk : k + 1 < e.length) (h : GwS out (bothP how l l2) (nth e k)) :
    (bothP how l l2 (nth e k) = true → GwS (growR out (nth e k) (nth e (k + 1) - 1)) (bothP how l l2) (nth e (k + 1))) ∧ (bothP how l l2 (nth e k) = false → GwS out (bothP how l l2) (nth e (k + 1))) := by
  have hlt := asc_nth he.asc (Nat.lt_succ_self k) hk
  have b1 := he.bd _ (nth_mem (show k < e.length by omega))
  have b2 := he.bd _ (nth_mem hk)
  have hc : ∀ p, nth e k ≤ p → p < nth e (k + 1) → bothP how l l2 p = bothP how l l2 (nth e k) := fun p q1 q2 => by
    rw [nth_get (show k < e.length by omega)] at q1 ⊢
    rw [nth_get hk] at q2
    unfold bothP
    rw [edg_const he h1 hk q1 q2, edg_const he h2 hk q1 q2]
  exact ⟨fun q => h.yes hlt b1.1 b2.2 (fun p q1 q2 => (hc p q1 q2).trans q), fun q => h.no hlt (fun p q1 q2 => (hc p q1 q2).trans q)⟩
theorem both_bd {P : Int → Bool} {out : List Rg} {f : Int} (h : GwS out P f) : ∀ r ∈ out, -1 ≤ r.2 ∧ r.2 ≤ 1114111 := fun r hr => by
  have h1 := CanF.bd h.can r hr
  unfold MP at h1
  omega

theorem OwG.base {w : World} {base base' : Nat} {v : Value} {l : List Rg} (h : OwG w base v l) (hb : base' ≤ base) : OwG w base' v l :=
  ⟨h.1, h.2.imp id fun ⟨g, cap, cur, a, b, c⟩ => ⟨g, cap, cur, a, Nat.le_trans hb b, c⟩⟩

end Go.Proofs.YtkcpfpofimkkiaaGreatDoor
namespace Go.Proofs.YtkcpfpofimkkiaaGreatDoor
open Go.RowKit BigFrame
set_option linter.unusedVariables false
set_option linter.unusedSimpArgs false
set_option maxRecDepth 100000

theorem bothP_one {l : List Rg} {p : Int} : bothP 1 l [] p = inR l p := by
  unfold bothP wantB
  rw [if_pos rfl]
  have : inR [] p = false := by unfold inR memR; simp
  rw [this, Bool.or_false]

theorem ext_nthR {l l2 : List Rg} (hl : l.length = l2.length) (h : ∀ k, k < l.length → nthR l k = nthR l2 k) : l = l2 := by
  apply List.ext_getElem hl
  intro k h1 h2
  have := h k h1
  rwa [nthR_get h1, nthR_get h2] at this

/-- How many points. -/
def sizeR : List Rg → Int
  | [] => 0
  | (a, b) :: t => (b - a + 1) + sizeR t
theorem sizeR_snoc : ∀ (l : List Rg) (a b : Int), sizeR (l ++ [(a, b)]) = sizeR l + (b - a + 1)
  | [], a, b => by simp [sizeR]
  | (x, y) :: t, a, b => by rw [List.cons_append, sizeR, sizeR, sizeR_snoc t a b]; omega
theorem CanF.take : ∀ {l : List Rg} {f : Int} (k : Nat), CanF f l → CanF f (l.take k)
  | [], f, k, h => by simpa using h
  | (a, b) :: t, f, 0, h => trivial
  | (a, b) :: t, f, k + 1, h => ⟨h.1, h.2.1, h.2.2.1, CanF.take k h.2.2.2⟩
theorem CanF.size : ∀ {l : List Rg} {f : Int}, CanF f l → 0 ≤ sizeR l ∧ (sizeR l = 0 ∨ sizeR l ≤ MP + 1 - f)
  | [], f, _ => ⟨Int.le_refl _, .inl rfl⟩
  | (a, b) :: t, f, h => by
    obtain ⟨h1, h2, h3, h4⟩ := h
    have := CanF.size h4
    unfold sizeR
    omega
theorem sizeR_take {l : List Rg} {k : Nat} (h : k < l.length) : sizeR (l.take (k + 1)) = sizeR (l.take k) + ((nthR l k).2 - (nthR l k).1 + 1) := by
  rw [List.take_succ_eq_append_getElem h, nthR_get h, ← sizeR_snoc]

end Go.Proofs.YtkcpfpofimkkiaaGreatDoor
