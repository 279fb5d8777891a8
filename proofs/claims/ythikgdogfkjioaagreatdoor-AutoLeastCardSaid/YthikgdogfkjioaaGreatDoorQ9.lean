/- The document's sets: Canon, All, SameSet, Size. · The document's grow, with what it leaves alone. -/
import Derived.Test.YthikgdogfkjioaaGreatDoorQ8
import Derived.Test.YthikgdogfkjioaaGreatDoorQ5
namespace Go.Proofs.YthikgdogfkjioaaGreatDoor
open Go.RowKit BigFrame
set_option linter.unusedVariables false
set_option linter.unusedSimpArgs false
set_option maxRecDepth 100000

theorem bothP_one {l : List Rg} {p : Int} : bothP 1 l [] p = inR l p := by
  unfold bothP wantB
  rw [if_pos rfl]
  have : inR [] p = false := by unfold inR memR; simp
  rw [this, Bool.or_false]

theorem ext_nthR {l l2 : List Rg} (hl : l.length = l2.length) (h : ∀ k, k < l.length → nthR l k = nthR l2 k) : l = l2 := by
  apply List.ext_getElem hl
  intro k h1 h2
  have := h k h1
  rwa [nthR_get h1, nthR_get h2] at this

/-- How many points. -/
def sizeR : List Rg → Int
  | [] => 0
  | (a, b) :: t => (b - a + 1) + sizeR t
theorem sizeR_snoc : ∀ (l : List Rg) (a b : Int), sizeR (l ++ [(a, b)]) = sizeR l + (b - a + 1)
  | [], a, b => by simp [sizeR]
  | (x, y) :: t, a, b => by rw [List.cons_append, sizeR, sizeR, sizeR_snoc t a b]; omega
theorem CanF.take : ∀ {l : List Rg} {f : Int} (k : Nat), CanF f l → CanF f (l.take k)
  | [], f, k, h => by simpa using h
  | (a, b) :: t, f, 0, h => trivial
  | (a, b) :: t, f, k + 1, h => ⟨h.1, h.2.1, h.2.2.1, CanF.take k h.2.2.2⟩
theorem CanF.size : ∀ {l : List Rg} {f : Int}, CanF f l → 0 ≤ sizeR l ∧ (sizeR l = 0 ∨ sizeR l ≤ MP + 1 - f)
  | [], f, _ => ⟨Int.le_refl _, .inl rfl⟩
  | (a, b) :: t, f, h => by
    obtain ⟨h1, h2, h3, h4⟩ := h
    have := CanF.size h4
    unfold sizeR
    omega
theorem sizeR_take {l : List Rg} {k : Nat} (h : k < l.length) : sizeR (l.take (k + 1)) = sizeR (l.take k) + ((nthR l k).2 - (nthR l k).1 + 1) := by
  rw [List.take_succ_eq_append_getElem h, nthR_get h, ← sizeR_snoc]

end Go.Proofs.YthikgdogfkjioaaGreatDoor
namespace Go.Proofs.YthikgdogfkjioaaGreatDoor
open Go.RowKit BigFrame
set_option linter.unusedVariables false
set_option linter.unusedSimpArgs false
set_option maxRecDepth 100000

set_option maxHeartbeats 1000000 in
theorem growX_any (base : Nat) (v : Value) (l : List Rg) (lo hi : Int) (w : World) (ho : OwG w base v l) (hb : base ≤ w.heap.size) (hn : l.length ≤ 100000) (hbd : ∀ r ∈ l, -1 ≤ r.2 ∧ r.2 ≤ 1114111) :
    Calls Tryz.prog 28 #[v, .int .i64 lo, .int .i64 hi] w fun e w' => ∃ v', e = .returned v' ∧ OwG w' base v' (growR l lo hi) ∧ w.grownBy w' v.ownBlock ∧ (∀ g, v'.ownBlock = some g → v.ownBlock = some g ∨ w.heap.size ≤ g) := by
  have hap : ∀ (v' : Value) (w' : World) (l' : List Rg) (n : Nat), w'.ownsRow base 52 2 v' (n + 1) (rv l ++ [.int .i64 lo, .int .i64 hi]) → n = l.length → l' = l ++ [(lo, hi)] → OwG w' base v' l' := fun v' w' l' n h hnl e => by
    subst e; subst hnl
    have e2 : rv l ++ [.int .i64 lo, .int .i64 hi] = rv (l ++ [(lo, hi)]) := by rw [rv_append]; rfl
    rw [e2] at h
    have e3 : (l ++ [(lo, hi)]).length = l.length + 1 := by simp
    unfold OwG; rw [e3]; exact h
  have HAP := Lib.hid hap
  clear hap
  rcases List.eq_nil_or_concat l with hl | ⟨l0, ⟨x, y⟩, hl⟩
  · obtain ⟨A, c, rfl, hc1, hc2, _⟩ := ho.form
    have hz : l.length = 0 := by rw [hl]; rfl
    have HG := Lib.hid (show growR l lo hi = l ++ [(lo, hi)] by rw [hl]; rfl)
    unfold OwG at ho
    rw [hz] at ho hc1 ⊢
    have HZ := Lib.hid hz; have HO := Lib.hid ho
    clear ho hz hl
    go_enter Tryz.func28, Tryz.ntmps28
    go_wp2_with (first
       | (at_builtin; refine wpList_app elRg rfl (.tmp 29) (.tmp 33) rfl base _ 0 1 (rv l) [.int .i64 lo, .int .i64 hi] rfl HO.out rfl rfl (by simp [Value.oneCell']) (by decide) (by decide) hb ?_; intro v2 w2 hown2 hg2 hat2; have HW2 := Lib.hid hown2; have HB2 := Lib.hid hg2; have HAT := Lib.hid hat2; clear hown2 hg2 hat2))
    go_ret
    exact ⟨v2, rfl, HAP.out _ _ _ _ HW2.out HZ.out.symm HG.out, HB2.out, fun g e => by rcases HAT.out with q | q <;> rw [q] at e <;> first | exact .inl e | (cases e; exact .inr (by omega))⟩
  · rw [List.concat_eq_append] at hl
    have hll : l.length = l0.length + 1 := by rw [hl]; simp
    obtain ⟨g, cap, rfl, hg1, hg2, hg3, hfz, hcs, hst⟩ := ho.blk (by omega)
    obtain ⟨A, c, e2, hc1, hc2, _⟩ := ho.form
    simp only [Value.slice.injEq] at e2
    obtain ⟨rfl, _, rfl⟩ := e2
    unfold maxLen at hc2
    have hnth : nthR l l0.length = (x, y) := by rw [nthR_get (by omega)]; subst hl; simp
    obtain ⟨c1, c2⟩ := hcs l0.length (by omega)
    have hst2 := hst l0.length hi (by omega)
    rw [hnth] at c1 c2 hst2
    simp only at c1 c2 hst2
    have hset : l.set l0.length (x, hi) = l0 ++ [(x, hi)] := by rw [hl, List.set_append_right _ _ (Nat.le_refl _), Nat.sub_self]; rfl
    rw [hset] at hst2
    have hbx := hbd (x, y) (by rw [hl]; simp)
    simp only at hbx
    obtain ⟨hb1, hb2⟩ := hbx
    have hg := growR_snoc l0 x y lo hi
    rw [← hl] at hg
    have f2 := hfz (l0.length * 2 + 1)
    unfold OwG at ho hst2
    have hset2 : (l0 ++ [(x, hi)]).length = l0.length + 1 := by simp
    rw [hset2] at hst2
    have HL1 := Lib.hid hll
    rw [hll] at hc1 ho hst2 ⊢
    have HO := Lib.hid ho; have HST := Lib.hid hst2
    have hm : l0.length ≤ 100000 := by omega
    have HM2 := Lib.hid (show ∃ m, m = l0.length from ⟨_, rfl⟩)
    clear ho hcs hst hst2 hset hset2 hnth hfz hl
    generalize hmm : l0.length = m at *
    have HMM := Lib.hid hmm
    clear hmm
    by_cases he : y + 1 = lo
    · have d1 : (y + 1 == lo) = true := by simpa using he
      rw [if_pos he] at hg
      have HG := Lib.hid hg
      clear hg he
      go_enter Tryz.func28, Tryz.ntmps28
      go_wp2
      go_ret
      have e3 : (l0 ++ [(x, hi)]).length = m + 1 := by rw [List.length_append, HMM.out]; rfl
      refine ⟨_, rfl, ?_, ⟨rfl, rfl, rfl, by rw [setCell_size]; exact Nat.le_refl _, fun k _ hk => Below.heap_setCell _ _ _ k (fun e => hk (by rw [e]; rfl))⟩, fun g' e => .inl e⟩
      unfold OwG
      rw [HG.out, e3]
      exact HST.out
    · have d1 : (y + 1 == lo) = false := by simpa using he
      rw [if_neg he] at hg
      have HG := Lib.hid hg
      clear hg he
      go_enter Tryz.func28, Tryz.ntmps28
      go_wp2_with (first
         | (at_builtin; refine wpList_app elRg rfl (.tmp 29) (.tmp 33) rfl base _ (m + 1) 1 (rv l) [.int .i64 lo, .int .i64 hi] rfl HO.out rfl rfl (by simp [Value.oneCell']) (by omega) (by omega) hb ?_; intro v2 w2 hown2 hg2 hat2; have HW2 := Lib.hid hown2; have HB2 := Lib.hid hg2; have HAT := Lib.hid hat2; clear hown2 hg2 hat2))
      go_ret
      exact ⟨v2, rfl, HAP.out _ _ _ _ HW2.out HL1.out.symm HG.out, HB2.out, fun g e => by rcases HAT.out with q | q <;> rw [q] at e <;> first | exact .inl e | (cases e; exact .inr (by omega))⟩
end Go.Proofs.YthikgdogfkjioaaGreatDoor
