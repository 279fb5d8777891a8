/- Memory of moveSets' last loop: the rows of the map are laid into the sets, one behind the other. · A region that draws its order, walked by steps (as in Reg), up to a tail in one order behind which nothing is asked of the world. -/
import Derived.Test.YthikgdogfkjioaaGreatDoorQ34
import Derived.Test.YthikgdogfkjioaaGreatDoorQ13
import Derived.Test.YthikgdogfkjioaaGreatDoorQ22
namespace Go.Proofs.YthikgdogfkjioaaGreatDoor
open Go.RowKit BigFrame Go.Maps
set_option linter.unusedVariables false
set_option linter.unusedSimpArgs false
set_option maxRecDepth 100000

/-- j rows of the map are laid behind the sets R. -/
structure Mg (W : World) (B0 base bm n : Nat) (f : Int → Option Value) (vk : Value) (L : List Int) (ms : List Mv) (R : List (List Rg)) (j : Nat) (v : Value) (vs : List Value) : Prop where
  le : base ≤ W.heap.size
  lo : B0 ≤ base
  m : VMap W bm n f
  k : W.ownsRow base 3 1 vk L.length (iv L)
  fr : ∀ t, OwG W base ((f t).getD nilV) (toSet ms t)
  ap : ∀ t t' q, t ≠ t' → ((f t).getD nilV).ownBlock = some q → ((f t').getD nilV).ownBlock ≠ some q
  c : ClV W B0 v vs (R ++ (L.take j).map (toSet ms))
  nw : ∀ (k : Nat) (t : Value) (g : Nat), vs[k]? = some t → t.ownBlock = some g → g < base ∨ ∃ i, i < j ∧ i < L.length ∧ t = (f (nth L i)).getD nilV
  nd : L.Nodup
section
variable {W W' : World} {B0 base bm n j : Nat} {f : Int → Option Value} {vk v v' : Value} {L : List Int} {ms : List Mv} {R : List (List Rg)} {vs : List Value}
theorem Mg.start {w : World} (h : Ms w W base bm n f vk L ms) (hw : base = w.heap.size) (hc : ClV w B0 v vs R) (hlo : B0 ≤ base) (hd : L.Nodup) : Mg W B0 base bm n f vk L ms R 0 v vs := by
  subst hw
  refine ⟨h.le, hlo, h.m, h.k, h.fr, h.ap, by simpa using hc.ext h.b, fun k t g hk ht => .inl ((hc.cl k t hk).lt g ht).2, hd⟩
theorem Mg.next (h : Mg W B0 base bm n f vk L ms R j v vs) (hj : j < L.length) (hg : W.grownBy W' v.ownBlock)
    (hr : W'.ownsRow B0 33 1 v' (R.length + j + 1) (vs ++ [(f (nth L j)).getD nilV])) (ha : v'.ownBlock = v.ownBlock ∨ v'.ownBlock = some (W.heap.size + 1)) :
    Mg W' B0 base bm n f vk L ms R (j + 1) v' (vs ++ [(f (nth L j)).getD nilV]) := by
  have hlen : (R ++ (L.take j).map (toSet ms)).length = R.length + j := by
    rw [List.length_append, List.length_map, List.length_take]; omega
  have hrow := h.c.row
  have hne : ∀ g, ((f (nth L j)).getD nilV).ownBlock = some g → v.ownBlock ≠ some g := fun g e q => by
    rcases own_ne (h.fr (nth L j)) hrow (by decide) with z | z
    · rw [z] at e; cases e
    · exact z (e.trans q.symm)
  refine ⟨Nat.le_trans h.le hg.size, h.lo, h.m.kept hg (fun e => h.m.cells hrow e.symm), h.k.kept hg (own_ne h.k hrow (by decide)), fun t => World.ownsRow.kept (h.fr t) hg (own_ne (h.fr t) hrow (by decide)), h.ap, ?_, fun k t g hk ht => ?_, h.nd⟩
  · rw [List.take_succ_eq_append_getElem hj, List.map_append, ← List.append_assoc, List.map_cons, List.map_nil, ← nth_get hj]
    refine h.c.push hg ((h.fr (nth L j)).base h.lo) (fun g e => ⟨hne g e, fun k t hk q => ?_⟩) (by rw [hlen]; exact hr) ha
    rcases h.nw k t g hk q with z | ⟨i, hi, hiL, rfl⟩
    · have := ((h.fr (nth L j)).lt g e).1; omega
    · have hij : nth L i ≠ nth L j := by
        rw [nth_get hiL, nth_get hj]
        intro q
        exact List.pairwise_iff_getElem.1 h.nd i j hiL hj hi q
      exact h.ap _ _ g hij q e
  · by_cases z : k < vs.length
    · rw [List.getElem?_append_left z] at hk
      rcases h.nw k t g hk ht with y | ⟨i, hi, y⟩
      · exact .inl y
      · exact .inr ⟨i, by omega, y⟩
    · rw [List.getElem?_append_right (by omega)] at hk
      by_cases y : k = vs.length
      · subst y
        simp at hk
        exact .inr ⟨j, by omega, hj, hk.symm⟩
      · rw [List.getElem?_eq_none (by simp; omega)] at hk; cases hk
end
end Go.Proofs.YthikgdogfkjioaaGreatDoor
namespace Go.Proofs.YthikgdogfkjioaaGreatDoor
open Go
set_option linter.unusedVariables false
set_option linter.unusedSimpArgs false

section
variable {P : Program} {ops : Array Oper} {md : Region.Mode} {Q : Exit → Act → World → Prop} {S : World → Prop} {t z : Nat}
/-- Whatever comes up leaves S, till z comes; then the last t, however they come. -/
def wpAnyT (P : Program) (md : Region.Mode) (ops : Array Oper) (Q : Exit → Act → World → Prop) (S : World → Prop) (t z : Nat) : Nat → Array Bool → Act → World → Prop
  | 0, listed, a, w => (∀ j ∈ Region.ready md ops listed, j = z) ∧ wpAny P md ops Q t listed a w
  | f + 1, listed, a, w => Region.ready md ops listed ≠ [] ∧ ∀ i ∈ Region.ready md ops listed, wpOp P ops Q i (fun a' w' => S w' ∧ wpAnyT P md ops Q S t z f (listed.setIfInBounds i true) a' w') a w
theorem wpAny_of_T : ∀ (f : Nat) (listed : Array Bool) (a : Act) (w : World), wpAnyT P md ops Q S t z f listed a w → wpAny P md ops Q (f + t) listed a w
  | 0, listed, a, w, h => by rw [Nat.zero_add]; exact h.2
  | f + 1, listed, a, w, h => by
    rw [show f + 1 + t = (f + t) + 1 by omega]
    exact ⟨fun h0 => absurd h0 h.1, fun i hi => wpOp_mono (fun a' w' h' => wpAny_of_T f _ a' w' h'.2) (h.2 i hi)⟩
/-- Operation z comes behind those from k on, n of them. -/
def behB (md : Region.Mode) (ops : Array Oper) (z k n : Nat) : Bool :=
  match ops[z]? with
  | some o => (List.range n).all fun i => o.after.toList.any fun e => Region.binds md e && e.on == k + i
  | none => false
theorem beh_not {i j k n : Nat} {listed : Array Bool} (hz : behB md ops z k n = true) (hik : k ≤ i ∧ i < k + n) (hi : i ∈ Region.ready md ops listed) (hj : j ∈ Region.ready md ops listed) : j ≠ z := by
  rintro rfl
  obtain ⟨hjun, oj, hoj, hall⟩ := mem_ready.1 hj
  obtain ⟨hun, oi, hoi, _⟩ := mem_ready.1 hi
  unfold behB at hz
  rw [hoj] at hz
  simp only [List.all_eq_true, List.mem_range, beq_iff_eq, List.any_eq_true, Bool.and_eq_true] at hz
  obtain ⟨e, he, hb, q⟩ := hz (i - k) (by omega)
  have := hall e (Array.mem_toList_iff.1 he) hb
  rw [q, show k + (i - k) = i by omega, getD_both hun] at this
  cases this
theorem firstT {i k0 n0 : Nat} {oi : Oper} {v : Value} (hz : behB md ops z k0 n0 = true) (hik : k0 ≤ i ∧ i < k0 + n0) (hi : ops[i]? = some oi) (hsel : ∀ (j : Nat) (o : Oper) cs b, ops[j]? = some o → o.op ≠ .select cs b)
    (hQ : ∀ c a d v w, Q (.panic c) (a.put d v) w → Q (.panic c) a w) :
    ∀ (f : Nat) (listed : Array Bool) (a : Act) (w : World),
      (∀ j oj, ops[j]? = some oj → j ≠ i → listed.getD j true = false → (∀ e ∈ oj.after, Region.binds md e = true → e.on ≠ i) → oi.apart ops oj = true) →
      i ∈ Region.ready md ops listed → YieldsIf P ops S oi v a → S w →
      wpAnyT P md ops Q S t z f (listed.setIfInBounds i true) (a.put oi.dst v) w → wpAnyT P md ops Q S t z (f + 1) listed a w := by
  intro f
  induction f with
  | zero =>
    intro listed a w _ hr hy hS H
    refine ⟨fun h => (by rw [h] at hr; cases hr), fun j hj => ?_⟩
    by_cases hji : j = i
    · subst hji; exact hy.wpOp hi hS ⟨hS, H⟩
    · exact absurd (H.1 j (ready_mono hj hji)) (beh_not hz hik hr hj)
  | succ f ih =>
    intro listed a w hfree hr hy hS H
    have hun := (mem_ready.1 hr).1
    refine ⟨fun h => (by rw [h] at hr; cases hr), fun j hj => ?_⟩
    by_cases hji : j = i
    · subst hji; exact hy.wpOp hi hS ⟨hS, H⟩
    · obtain ⟨hjun, oj, hoj, hall⟩ := mem_ready.1 hj
      have hno : ∀ e ∈ oj.after, Region.binds md e = true → e.on ≠ i := fun e he hb q => by
        have := hall e he hb
        rw [q, getD_both hun] at this
        cases this
      have h2 := wpOp_putIf hoj (hfree j oj hoj hji hjun hno) (fun cs b => hsel i oi cs b hi) (fun cs b => hsel j oj cs b hoj) (fun c a w q => hQ c a _ _ w q) hy (H.2 j (ready_mono hj hji))
      refine wpOp_mono (fun a' w' h3 => ⟨h3.2.1, ih (listed.setIfInBounds j true) a' w' (fun k ok hk hki hku hkn => hfree k ok hk hki ?_ hkn) (ready_mono hr (Ne.symm hji)) h3.1 h3.2.1 ?_⟩) h2
      · by_cases q : j = k
        · subst q; exact hjun
        · rw [getD_set_ne true q] at hku; exact hku
      · rw [Array.setIfInBounds_comm _ _ hji]; exact h3.2.2
theorem batchT {K : Act → Prop} {w : World} {g k0 n0 : Nat} (hz : behB md ops z k0 n0 = true) (hsel : Region.noSelect ops = true) (hQ : ∀ c a d v w, Q (.panic c) (a.put d v) w → Q (.panic c) a w) (hS : S w) :
    ∀ (l : List Oper) (k : Nat) (listed : Array Bool) (a : Act), (k0 ≤ k ∧ k + l.length ≤ k0 + n0) → (∀ j, j < l.length → l[j]? = ops[k + j]?) → lexS md ops l.length k listed = true → l.all readB = true →
    (∀ a', K a' → wpAnyT P md ops Q S t z g (setsB l.length k listed) a' w) → wpQuiet P ops S K l a → wpAnyT P md ops Q S t z (g + l.length) listed a w
  | [], k, listed, a, _, _, _, _, hK, h => hK a h
  | o :: l, k, listed, a, hkz, hl, hB, hR, hK, h => by
    have h0 : ops[k]? = some o := by simpa using (hl 0 (by simp)).symm
    simp only [List.length_cons] at hkz
    simp only [List.length_cons, lexS, Bool.and_eq_true] at hB
    simp only [List.all_cons, Bool.and_eq_true] at hR
    obtain ⟨⟨hr, hf⟩, hB2⟩ := hB
    have hr2 : k ∈ Region.ready md ops listed := by simpa using hr
    have key : ∀ (v : Value), YieldsIf P ops S o v a → wpQuiet P ops S K l (a.put o.dst v) → wpAnyT P md ops Q S t z (g + (l.length + 1)) listed a w := fun v hy h2 =>
      firstT hz (by omega) h0 (Region.noSelect_spec hsel) hQ (g + l.length) listed a w (Region.free_spec h0 hf) hr2 hy hS
        (batchT hz hsel hQ hS l (k + 1) _ _ (by omega) (fun j hj => by have := hl (j + 1) (by simp; omega); simpa [Nat.add_assoc, Nat.add_comm 1 j] using this) hB2 hR.2 hK h2)
    unfold wpQuiet at h
    split at h
    · rename_i hw
      obtain ⟨v, h1, h2⟩ := h
      exact key v (yieldsIf_of_quiet hR.1 hw h1) h2
    · rename_i hw
      exact key undef (.inr ⟨by simpa using hw, rfl⟩) h
/-- The operations from k on, n of them, that only answer values. -/
theorem takeT {w : World} {l : List Oper} {a : Act} {listed : Array Bool} (g k n : Nat) (hB : (Region.noSelect l.toArray && lexS md l.toArray n k listed && decide (k + n ≤ l.length) && behB md l.toArray z k n) = true) (hR : ((l.drop k).take n).all readB = true)
    (hQ : ∀ c a d v w, Q (.panic c) (a.put d v) w → Q (.panic c) a w) (hS : S w) (h : wpQuiet P l.toArray S (fun a' => wpAnyT P md l.toArray Q S t z g (setsB n k listed) a' w) ((l.drop k).take n) a) : wpAnyT P md l.toArray Q S t z (g + n) listed a w := by
  simp only [Bool.and_eq_true, decide_eq_true_eq] at hB
  obtain ⟨⟨⟨hsel, hlex⟩, hkn⟩, hz⟩ := hB
  have hlen : ((l.drop k).take n).length = n := by simp; omega
  have := batchT (md := md) (g := g) hz hsel hQ hS ((l.drop k).take n) k listed a ⟨Nat.le_refl _, by rw [hlen]; exact Nat.le_refl _⟩ (fun j hj => by
    rw [hlen] at hj
    simp [List.getElem?_take, hj]) (by rw [hlen]; exact hlex) hR (fun a' ha => by rw [hlen]; exact ha) h
  rwa [hlen] at this
/-- One operation alone may come. -/
theorem oneT {w : World} {l : List Oper} {a : Act} {listed : Array Bool} (f i : Nat) (hB : decide (Region.ready md l.toArray listed = [i]) = true) (hi : i < l.length)
    (h : wpList P l.toArray (Exit.then (fun a' w' => S w' ∧ wpAnyT P md l.toArray Q S t z f (listed.setIfInBounds i true) a' w') Q) ((l.drop i).take 1) a w) : wpAnyT P md l.toArray Q S t z (f + 1) listed a w := by
  have hr := of_decide_eq_true hB
  refine ⟨by rw [hr]; simp, fun j hj => ?_⟩
  rw [hr, List.mem_singleton] at hj
  subst hj
  have hop : l.toArray[j]? = some (l[j]'hi) := by simp
  refine wpOp_of_list hop ?_
  have h1 : (l.drop j).take 1 = [l[j]'hi] := by rw [List.drop_eq_getElem_cons hi]; rfl
  rw [← h1]
  exact h
/-- One of two may come. -/
theorem twoT {w : World} {l : List Oper} {a : Act} {listed : Array Bool} (f i j : Nat) (hB : decide (Region.ready md l.toArray listed = [i, j]) = true) (hi : i < l.length) (hj : j < l.length)
    (h : wpList P l.toArray (Exit.then (fun a' w' => S w' ∧ wpAnyT P md l.toArray Q S t z f (listed.setIfInBounds i true) a' w') Q) ((l.drop i).take 1) a w)
    (h' : wpList P l.toArray (Exit.then (fun a' w' => S w' ∧ wpAnyT P md l.toArray Q S t z f (listed.setIfInBounds j true) a' w') Q) ((l.drop j).take 1) a w) : wpAnyT P md l.toArray Q S t z (f + 1) listed a w := by
  have hr := of_decide_eq_true hB
  refine ⟨by rw [hr]; simp, fun k hk => ?_⟩
  rw [hr] at hk
  simp only [List.mem_cons, List.not_mem_nil, or_false] at hk
  rcases hk with rfl | rfl
  · have hop : l.toArray[k]? = some (l[k]'hi) := by simp
    refine wpOp_of_list hop ?_
    have h1 : (l.drop k).take 1 = [l[k]'hi] := by rw [List.drop_eq_getElem_cons hi]; rfl
    rw [← h1]
    exact h
  · have hop : l.toArray[k]? = some (l[k]'hj) := by simp
    refine wpOp_of_list hop ?_
    have h1 : (l.drop k).take 1 = [l[k]'hj] := by rw [List.drop_eq_getElem_cons hj]; rfl
    rw [← h1]
    exact h'
/-- The tail, from z on, in the order of the text. -/
theorem endT {w : World} {l : List Oper} {a : Act} {listed : Array Bool} (hB : (decide (Region.ready md l.toArray listed = [z]) && Region.seqB md l.toArray (l.drop z).length z listed && decide ((l.drop z).length = t)) = true)
    (h : wpList P l.toArray Q (l.drop z) a w) : wpAnyT P md l.toArray Q S t z 0 listed a w := by
  simp only [Bool.and_eq_true, decide_eq_true_eq] at hB
  obtain ⟨⟨h1, h2⟩, h3⟩ := hB
  refine ⟨fun j hj => by rw [h1, List.mem_singleton] at hj; exact hj, ?_⟩
  have := wpAny_of_seq (md := md) (Q' := Q) (l.drop z) z listed a w (fun j => by simp [List.getElem?_drop]) h2 h
  rwa [h3] at this
/-- The region: first the copies cp, cp + 1, .. (m of them), that touch no memory. -/
theorem wp_region_T {id : Nat} {a : Act} {w : World} {l : List Oper} (S : World → Prop) (t z : Nat) (hm : P.follows .mixedOrders = true) (f : Nat) (hf : f + t = l.toArray.size) (h : wpAnyT P .any l.toArray Q S t z f (Array.replicate l.toArray.size false) a w.drew) : (Code.region id l.toArray true).wp P Q a w :=
  wp_region_any hm (by have := wpAny_of_T _ _ _ _ h; rwa [hf] at this)
/-- .. behind one copy, operation p, that touches no memory. -/
theorem wp_region_U {id : Nat} {a : Act} {w : World} {l : List Oper} (S : World → Prop) (t z p : Nat) (hm : P.follows .mixedOrders = true) (f : Nat) (hf : f + t + 1 = l.toArray.size)
    (hB : (Region.noSelect l.toArray && (yldB .any l.toArray 1 p (Array.replicate l.toArray.size false)).1 && decide (p < l.length)) = true) (hV : movesB ((l.drop p).take 1) = true) (hQ : ∀ c a d v w, Q (.panic c) (a.put d v) w → Q (.panic c) a w) (hS : S w.drew)
    (h : wpQuiet P l.toArray S (fun a' => wpAnyT P .any l.toArray Q S t z f ((Array.replicate l.toArray.size false).setIfInBounds p true) a' w.drew) ((l.drop p).take 1) a) : (Code.region id l.toArray true).wp P Q a w := by
  simp only [Bool.and_eq_true, decide_eq_true_eq] at hB
  obtain ⟨⟨hsel, hy⟩, hp⟩ := hB
  have hlen : ((l.drop p).take 1).length = 1 := by simp; omega
  refine wp_region_any hm ?_
  have key := wpAny_yld (md := .any) (P := P) (Q := Q) (w := w.drew) (g := f + t) (K := fun a' => wpAnyT P .any l.toArray Q S t z f ((Array.replicate l.toArray.size false).setIfInBounds p true) a' w.drew) hsel hQ ((l.drop p).take 1) p (Array.replicate l.toArray.size false) a
    (fun j hj => by rw [hlen] at hj; simp [List.getElem?_take, hj]) (by rw [hlen]; exact hy) (fun a' ha' => by rw [hlen]; exact wpAny_of_T _ _ _ _ ha')
    (yld_of_quiet hS _ _ _ hV (by rw [List.append_nil]; exact h))
  rwa [hlen, hf] at key
end
end Go.Proofs.YthikgdogfkjioaaGreatDoor
