/- A region of many orders, all of which come to one end; three operations of which any may come. · A region that draws its order, walked by steps (as in Reg), up to a tail in one order behind which nothing is asked of the world. · As Ret, but what comes ahead of the tail may come ahead of it by several steps. -/
import Derived.Test.YtiklbannoinioaaDoorQ7
namespace Go.Proofs.YtiklbannoinioaaDoor
open Go
set_option linter.unusedVariables false
set_option linter.unusedSimpArgs false

section
variable {P : Program} {ops : Array Oper} {md : Region.Mode} {Q : Exit → Act → World → Prop} {S : World → Prop}
/-- What holds behind the statement, said of the slots ahead of it. -/
theorem wp_post {c : Code} {a : Act} {w : World} (Post : Act → Act → World → Prop) (h : c.wp P (fun e a' w' => e = .normal ∧ Post a a' w') a w) (k : ∀ a' w', Post a a' w' → Q .normal a' w') : c.wp P Q a w :=
  Code.wp_mono (fun e a' w' h => by obtain ⟨rfl, h⟩ := h; exact k _ _ h) h
/-- One of three may come. -/
theorem threeS {w : World} {l : List Oper} {a : Act} {listed : Array Bool} (f i j m : Nat) (hB : decide (Region.ready md l.toArray listed = [i, j, m]) = true) (hi : i < l.length) (hj : j < l.length) (hm : m < l.length)
    (h : wpList P l.toArray (Exit.then (fun a' w' => S w' ∧ wpAnyS P md l.toArray Q S f (listed.setIfInBounds i true) a' w') Q) ((l.drop i).take 1) a w)
    (h' : wpList P l.toArray (Exit.then (fun a' w' => S w' ∧ wpAnyS P md l.toArray Q S f (listed.setIfInBounds j true) a' w') Q) ((l.drop j).take 1) a w)
    (h'' : wpList P l.toArray (Exit.then (fun a' w' => S w' ∧ wpAnyS P md l.toArray Q S f (listed.setIfInBounds m true) a' w') Q) ((l.drop m).take 1) a w) : wpAnyS P md l.toArray Q S (f + 1) listed a w := by
  have hr := of_decide_eq_true hB
  have key : ∀ k (hk : k < l.length), wpList P l.toArray (Exit.then (fun a' w' => S w' ∧ wpAnyS P md l.toArray Q S f (listed.setIfInBounds k true) a' w') Q) ((l.drop k).take 1) a w → wpOp P l.toArray Q k (fun a' w' => S w' ∧ wpAnyS P md l.toArray Q S f (listed.setIfInBounds k true) a' w') a w := fun k hk hw => by
    have hop : l.toArray[k]? = some (l[k]'hk) := by simp
    refine wpOp_of_list hop ?_
    have h1 : (l.drop k).take 1 = [l[k]'hk] := by rw [List.drop_eq_getElem_cons hk]; rfl
    rw [← h1]
    exact hw
  refine ⟨by rw [hr]; simp, fun k hk => ?_⟩
  rw [hr] at hk
  simp only [List.mem_cons, List.not_mem_nil, or_false] at hk
  rcases hk with rfl | rfl | rfl
  · exact key k hi h
  · exact key k hj h'
  · exact key k hm h''
end
end Go.Proofs.YtiklbannoinioaaDoor
namespace Go.Proofs.YtiklbannoinioaaDoor
open Go
set_option linter.unusedVariables false
set_option linter.unusedSimpArgs false

section
variable {P : Program} {ops : Array Oper} {md : Region.Mode} {Q : Exit → Act → World → Prop} {S : World → Prop} {t z : Nat}
/-- Whatever comes up leaves S, till z comes; then the last t, however they come. -/
def wpAnyT (P : Program) (md : Region.Mode) (ops : Array Oper) (Q : Exit → Act → World → Prop) (S : World → Prop) (t z : Nat) : Nat → Array Bool → Act → World → Prop
  | 0, listed, a, w => (∀ j ∈ Region.ready md ops listed, j = z) ∧ wpAny P md ops Q t listed a w
  | f + 1, listed, a, w => Region.ready md ops listed ≠ [] ∧ ∀ i ∈ Region.ready md ops listed, wpOp P ops Q i (fun a' w' => S w' ∧ wpAnyT P md ops Q S t z f (listed.setIfInBounds i true) a' w') a w
theorem wpAny_of_T : ∀ (f : Nat) (listed : Array Bool) (a : Act) (w : World), wpAnyT P md ops Q S t z f listed a w → wpAny P md ops Q (f + t) listed a w
  | 0, listed, a, w, h => by rw [Nat.zero_add]; exact h.2
  | f + 1, listed, a, w, h => by
    rw [show f + 1 + t = (f + t) + 1 by omega]
    exact ⟨fun h0 => absurd h0 h.1, fun i hi => wpOp_mono (fun a' w' h' => wpAny_of_T f _ a' w' h'.2) (h.2 i hi)⟩
/-- Operation z comes behind those from k on, n of them. -/
def behB (md : Region.Mode) (ops : Array Oper) (z k n : Nat) : Bool :=
  match ops[z]? with
  | some o => (List.range n).all fun i => o.after.toList.any fun e => Region.binds md e && e.on == k + i
  | none => false
theorem beh_not {i j k n : Nat} {listed : Array Bool} (hz : behB md ops z k n = true) (hik : k ≤ i ∧ i < k + n) (hi : i ∈ Region.ready md ops listed) (hj : j ∈ Region.ready md ops listed) : j ≠ z := by
  rintro rfl
  obtain ⟨hjun, oj, hoj, hall⟩ := mem_ready.1 hj
  obtain ⟨hun, oi, hoi, _⟩ := mem_ready.1 hi
  unfold behB at hz
  rw [hoj] at hz
  simp only [List.all_eq_true, List.mem_range, beq_iff_eq, List.any_eq_true, Bool.and_eq_true] at hz
  obtain ⟨e, he, hb, q⟩ := hz (i - k) (by omega)
  have := hall e (Array.mem_toList_iff.1 he) hb
  rw [q, show k + (i - k) = i by omega, getD_both hun] at this
  cases this
theorem firstT {i k0 n0 : Nat} {oi : Oper} {v : Value} (hz : behB md ops z k0 n0 = true) (hik : k0 ≤ i ∧ i < k0 + n0) (hi : ops[i]? = some oi) (hsel : ∀ (j : Nat) (o : Oper) cs b, ops[j]? = some o → o.op ≠ .select cs b)
    (hQ : ∀ c a d v w, Q (.panic c) (a.put d v) w → Q (.panic c) a w) :
    ∀ (f : Nat) (listed : Array Bool) (a : Act) (w : World),
      (∀ j oj, ops[j]? = some oj → j ≠ i → listed.getD j true = false → (∀ e ∈ oj.after, Region.binds md e = true → e.on ≠ i) → oi.apart ops oj = true) →
      i ∈ Region.ready md ops listed → YieldsIf P ops S oi v a → S w →
      wpAnyT P md ops Q S t z f (listed.setIfInBounds i true) (a.put oi.dst v) w → wpAnyT P md ops Q S t z (f + 1) listed a w := by
  intro f
  induction f with
  | zero =>
    intro listed a w _ hr hy hS H
    refine ⟨fun h => (by rw [h] at hr; cases hr), fun j hj => ?_⟩
    by_cases hji : j = i
    · subst hji; exact hy.wpOp hi hS ⟨hS, H⟩
    · exact absurd (H.1 j (ready_mono hj hji)) (beh_not hz hik hr hj)
  | succ f ih =>
    intro listed a w hfree hr hy hS H
    have hun := (mem_ready.1 hr).1
    refine ⟨fun h => (by rw [h] at hr; cases hr), fun j hj => ?_⟩
    by_cases hji : j = i
    · subst hji; exact hy.wpOp hi hS ⟨hS, H⟩
    · obtain ⟨hjun, oj, hoj, hall⟩ := mem_ready.1 hj
      have hno : ∀ e ∈ oj.after, Region.binds md e = true → e.on ≠ i := fun e he hb q => by
        have := hall e he hb
        rw [q, getD_both hun] at this
        cases this
      have h2 := wpOp_putIf hoj (hfree j oj hoj hji hjun hno) (fun cs b => hsel i oi cs b hi) (fun cs b => hsel j oj cs b hoj) (fun c a w q => hQ c a _ _ w q) hy (H.2 j (ready_mono hj hji))
      refine wpOp_mono (fun a' w' h3 => ⟨h3.2.1, ih (listed.setIfInBounds j true) a' w' (fun k ok hk hki hku hkn => hfree k ok hk hki ?_ hkn) (ready_mono hr (Ne.symm hji)) h3.1 h3.2.1 ?_⟩) h2
      · by_cases q : j = k
        · subst q; exact hjun
        · rw [getD_set_ne true q] at hku; exact hku
      · rw [Array.setIfInBounds_comm _ _ hji]; exact h3.2.2
theorem batchT {K : Act → Prop} {w : World} {g k0 n0 : Nat} (hz : behB md ops z k0 n0 = true) (hsel : Region.noSelect ops = true) (hQ : ∀ c a d v w, Q (.panic c) (a.put d v) w → Q (.panic c) a w) (hS : S w) :
    ∀ (l : List Oper) (k : Nat) (listed : Array Bool) (a : Act), (k0 ≤ k ∧ k + l.length ≤ k0 + n0) → (∀ j, j < l.length → l[j]? = ops[k + j]?) → lexS md ops l.length k listed = true → l.all readB = true →
    (∀ a', K a' → wpAnyT P md ops Q S t z g (setsB l.length k listed) a' w) → wpQuiet P ops S K l a → wpAnyT P md ops Q S t z (g + l.length) listed a w
  | [], k, listed, a, _, _, _, _, hK, h => hK a h
  | o :: l, k, listed, a, hkz, hl, hB, hR, hK, h => by
    have h0 : ops[k]? = some o := by simpa using (hl 0 (by simp)).symm
    simp only [List.length_cons] at hkz
    simp only [List.length_cons, lexS, Bool.and_eq_true] at hB
    simp only [List.all_cons, Bool.and_eq_true] at hR
    obtain ⟨⟨hr, hf⟩, hB2⟩ := hB
    have hr2 : k ∈ Region.ready md ops listed := by simpa using hr
    have key : ∀ (v : Value), YieldsIf P ops S o v a → wpQuiet P ops S K l (a.put o.dst v) → wpAnyT P md ops Q S t z (g + (l.length + 1)) listed a w := fun v hy h2 =>
      firstT hz (by omega) h0 (Region.noSelect_spec hsel) hQ (g + l.length) listed a w (Region.free_spec h0 hf) hr2 hy hS
        (batchT hz hsel hQ hS l (k + 1) _ _ (by omega) (fun j hj => by have := hl (j + 1) (by simp; omega); simpa [Nat.add_assoc, Nat.add_comm 1 j] using this) hB2 hR.2 hK h2)
    unfold wpQuiet at h
    split at h
    · rename_i hw
      obtain ⟨v, h1, h2⟩ := h
      exact key v (yieldsIf_of_quiet hR.1 hw h1) h2
    · rename_i hw
      exact key undef (.inr ⟨by simpa using hw, rfl⟩) h
/-- The operations from k on, n of them, that only answer values. -/
theorem takeT {w : World} {l : List Oper} {a : Act} {listed : Array Bool} (g k n : Nat) (hB : (Region.noSelect l.toArray && lexS md l.toArray n k listed && decide (k + n ≤ l.length) && behB md l.toArray z k n) = true) (hR : ((l.drop k).take n).all readB = true)
    (hQ : ∀ c a d v w, Q (.panic c) (a.put d v) w → Q (.panic c) a w) (hS : S w) (h : wpQuiet P l.toArray S (fun a' => wpAnyT P md l.toArray Q S t z g (setsB n k listed) a' w) ((l.drop k).take n) a) : wpAnyT P md l.toArray Q S t z (g + n) listed a w := by
  simp only [Bool.and_eq_true, decide_eq_true_eq] at hB
  obtain ⟨⟨⟨hsel, hlex⟩, hkn⟩, hz⟩ := hB
  have hlen : ((l.drop k).take n).length = n := by simp; omega
  have := batchT (md := md) (g := g) hz hsel hQ hS ((l.drop k).take n) k listed a ⟨Nat.le_refl _, by rw [hlen]; exact Nat.le_refl _⟩ (fun j hj => by
    rw [hlen] at hj
    simp [List.getElem?_take, hj]) (by rw [hlen]; exact hlex) hR (fun a' ha => by rw [hlen]; exact ha) h
  rwa [hlen] at this
/-- One operation alone may come. -/
theorem oneT {w : World} {l : List Oper} {a : Act} {listed : Array Bool} (f i : Nat) (hB : decide (Region.ready md l.toArray listed = [i]) = true) (hi : i < l.length)
    (h : wpList P l.toArray (Exit.then (fun a' w' => S w' ∧ wpAnyT P md l.toArray Q S t z f (listed.setIfInBounds i true) a' w') Q) ((l.drop i).take 1) a w) : wpAnyT P md l.toArray Q S t z (f + 1) listed a w := by
  have hr := of_decide_eq_true hB
  refine ⟨by rw [hr]; simp, fun j hj => ?_⟩
  rw [hr, List.mem_singleton] at hj
  subst hj
  have hop : l.toArray[j]? = some (l[j]'hi) := by simp
  refine wpOp_of_list hop ?_
  have h1 : (l.drop j).take 1 = [l[j]'hi] := by rw [List.drop_eq_getElem_cons hi]; rfl
  rw [← h1]
  exact h
/-- One of two may come. -/
theorem twoT {w : World} {l : List Oper} {a : Act} {listed : Array Bool} (f i j : Nat) (hB : decide (Region.ready md l.toArray listed = [i, j]) = true) (hi : i < l.length) (hj : j < l.length)
    (h : wpList P l.toArray (Exit.then (fun a' w' => S w' ∧ wpAnyT P md l.toArray Q S t z f (listed.setIfInBounds i true) a' w') Q) ((l.drop i).take 1) a w)
    (h' : wpList P l.toArray (Exit.then (fun a' w' => S w' ∧ wpAnyT P md l.toArray Q S t z f (listed.setIfInBounds j true) a' w') Q) ((l.drop j).take 1) a w) : wpAnyT P md l.toArray Q S t z (f + 1) listed a w := by
  have hr := of_decide_eq_true hB
  refine ⟨by rw [hr]; simp, fun k hk => ?_⟩
  rw [hr] at hk
  simp only [List.mem_cons, List.not_mem_nil, or_false] at hk
  rcases hk with rfl | rfl
  · have hop : l.toArray[k]? = some (l[k]'hi) := by simp
    refine wpOp_of_list hop ?_
    have h1 : (l.drop k).take 1 = [l[k]'hi] := by rw [List.drop_eq_getElem_cons hi]; rfl
    rw [← h1]
    exact h
  · have hop : l.toArray[k]? = some (l[k]'hj) := by simp
    refine wpOp_of_list hop ?_
    have h1 : (l.drop k).take 1 = [l[k]'hj] := by rw [List.drop_eq_getElem_cons hj]; rfl
    rw [← h1]
    exact h'
/-- The tail, from z on, in the order of the text. -/
theorem endT {w : World} {l : List Oper} {a : Act} {listed : Array Bool} (hB : (decide (Region.ready md l.toArray listed = [z]) && Region.seqB md l.toArray (l.drop z).length z listed && decide ((l.drop z).length = t)) = true)
    (h : wpList P l.toArray Q (l.drop z) a w) : wpAnyT P md l.toArray Q S t z 0 listed a w := by
  simp only [Bool.and_eq_true, decide_eq_true_eq] at hB
  obtain ⟨⟨h1, h2⟩, h3⟩ := hB
  refine ⟨fun j hj => by rw [h1, List.mem_singleton] at hj; exact hj, ?_⟩
  have := wpAny_of_seq (md := md) (Q' := Q) (l.drop z) z listed a w (fun j => by simp [List.getElem?_drop]) h2 h
  rwa [h3] at this
/-- The region: first the copies cp, cp + 1, .. (m of them), that touch no memory. -/
theorem wp_region_T {id : Nat} {a : Act} {w : World} {l : List Oper} (S : World → Prop) (t z : Nat) (hm : P.follows .mixedOrders = true) (f : Nat) (hf : f + t = l.toArray.size) (h : wpAnyT P .any l.toArray Q S t z f (Array.replicate l.toArray.size false) a w.drew) : (Code.region id l.toArray true).wp P Q a w :=
  wp_region_any hm (by have := wpAny_of_T _ _ _ _ h; rwa [hf] at this)
/-- .. behind one copy, operation p, that touches no memory. -/
theorem wp_region_U {id : Nat} {a : Act} {w : World} {l : List Oper} (S : World → Prop) (t z p : Nat) (hm : P.follows .mixedOrders = true) (f : Nat) (hf : f + t + 1 = l.toArray.size)
    (hB : (Region.noSelect l.toArray && (yldB .any l.toArray 1 p (Array.replicate l.toArray.size false)).1 && decide (p < l.length)) = true) (hV : movesB ((l.drop p).take 1) = true) (hQ : ∀ c a d v w, Q (.panic c) (a.put d v) w → Q (.panic c) a w) (hS : S w.drew)
    (h : wpQuiet P l.toArray S (fun a' => wpAnyT P .any l.toArray Q S t z f ((Array.replicate l.toArray.size false).setIfInBounds p true) a' w.drew) ((l.drop p).take 1) a) : (Code.region id l.toArray true).wp P Q a w := by
  simp only [Bool.and_eq_true, decide_eq_true_eq] at hB
  obtain ⟨⟨hsel, hy⟩, hp⟩ := hB
  have hlen : ((l.drop p).take 1).length = 1 := by simp; omega
  refine wp_region_any hm ?_
  have key := wpAny_yld (md := .any) (P := P) (Q := Q) (w := w.drew) (g := f + t) (K := fun a' => wpAnyT P .any l.toArray Q S t z f ((Array.replicate l.toArray.size false).setIfInBounds p true) a' w.drew) hsel hQ ((l.drop p).take 1) p (Array.replicate l.toArray.size false) a
    (fun j hj => by rw [hlen] at hj; simp [List.getElem?_take, hj]) (by rw [hlen]; exact hy) (fun a' ha' => by rw [hlen]; exact wpAny_of_T _ _ _ _ ha')
    (yld_of_quiet hS _ _ _ hV (by rw [List.append_nil]; exact h))
  rwa [hlen, hf] at key
end
end Go.Proofs.YtiklbannoinioaaDoor
namespace Go.Proofs.YtiklbannoinioaaDoor
open Go
set_option linter.unusedVariables false
set_option linter.unusedSimpArgs false

section
variable {P : Program} {ops : Array Oper} {md : Region.Mode} {Q : Exit → Act → World → Prop} {S : World → Prop} {t z : Nat}
/-- What is listed has all listed that it comes after. -/
def DownL (md : Region.Mode) (ops : Array Oper) (listed : Array Bool) : Prop := ∀ (j : Nat) (o : Oper), ops[j]? = some o → listed.getD j false = true → ∀ e ∈ o.after, Region.binds md e = true → listed.getD e.on false = true
theorem downL_start : DownL md ops (Array.replicate ops.size false) := fun j o hj h => by
  rw [getD_replicate_false] at h; cases h
theorem DownL.set_ {listed : Array Bool} {i : Nat} (h : DownL md ops listed) (hi : i ∈ Region.ready md ops listed) : DownL md ops (listed.setIfInBounds i true) := fun j o hj hl e he hb => by
  obtain ⟨hun, oi, hoi, hall⟩ := mem_ready.1 hi
  by_cases q2 : i = e.on
  · subst q2
    unfold Array.getD at hun ⊢
    simp only [Array.size_setIfInBounds]
    split at hun
    · rename_i hsz
      simp [hsz]
    · cases hun
  · rw [getD_set_ne false q2]
    by_cases q : i = j
    · subst q
      rw [hoi] at hj; cases hj
      exact hall e he hb
    · rw [getD_set_ne false q] at hl
      exact h j o hj hl e he hb
/-- Operation i comes ahead of operation z, by n steps at most. -/
def ancB (md : Region.Mode) (ops : Array Oper) (i : Nat) : Nat → Nat → Bool
  | 0, _ => false
  | n + 1, z => match ops[z]? with
    | some o => o.after.toList.any fun e => Region.binds md e && (e.on == i || ancB md ops i n e.on)
    | none => false
theorem anc_listed {i : Nat} {listed : Array Bool} (hd : DownL md ops listed) : ∀ (n z : Nat), ancB md ops i n z = true → listed.getD z false = true → listed.getD i false = true
  | 0, _, h, _ => by cases h
  | n + 1, z, h, hl => by
    unfold ancB at h
    split at h
    · rename_i o ho
      simp only [List.any_eq_true, Bool.and_eq_true, Bool.or_eq_true, beq_iff_eq] at h
      obtain ⟨e, he, hb, q⟩ := h
      have he2 := hd z o ho hl e (Array.mem_toList_iff.1 he) hb
      rcases q with q | q
      · rw [← q]; exact he2
      · exact anc_listed hd n e.on q he2
    · cases h
theorem anc_not {n i j : Nat} {listed : Array Bool} (hd : DownL md ops listed) (hz : ancB md ops i n z = true) (hi : i ∈ Region.ready md ops listed) (hj : j ∈ Region.ready md ops listed) : j ≠ z := by
  rintro rfl
  obtain ⟨hjun, oj, hoj, hall⟩ := mem_ready.1 hj
  obtain ⟨hun, oi, hoi, _⟩ := mem_ready.1 hi
  have hf := getD_both hun
  cases n with
  | zero => cases hz
  | succ n =>
    unfold ancB at hz
    rw [hoj] at hz
    simp only [List.any_eq_true, Bool.and_eq_true, Bool.or_eq_true, beq_iff_eq] at hz
    obtain ⟨e, he, hb, q⟩ := hz
    have he2 := hall e (Array.mem_toList_iff.1 he) hb
    rcases q with q | q
    · rw [q, hf] at he2; cases he2
    · have := anc_listed hd n e.on q he2
      rw [hf] at this; cases this
theorem firstD {N i : Nat} {oi : Oper} {v : Value} (hz : ancB md ops i N z = true) (hi : ops[i]? = some oi) (hsel : ∀ (j : Nat) (o : Oper) cs b, ops[j]? = some o → o.op ≠ .select cs b)
    (hQ : ∀ c a d v w, Q (.panic c) (a.put d v) w → Q (.panic c) a w) :
    ∀ (f : Nat) (listed : Array Bool) (a : Act) (w : World), DownL md ops listed →
      (∀ j oj, ops[j]? = some oj → j ≠ i → listed.getD j true = false → (∀ e ∈ oj.after, Region.binds md e = true → e.on ≠ i) → oi.apart ops oj = true) →
      i ∈ Region.ready md ops listed → YieldsIf P ops S oi v a → S w →
      wpAnyT P md ops Q S t z f (listed.setIfInBounds i true) (a.put oi.dst v) w → wpAnyT P md ops Q S t z (f + 1) listed a w := by
  intro f
  induction f with
  | zero =>
    intro listed a w hd _ hr hy hS H
    refine ⟨fun h => (by rw [h] at hr; cases hr), fun j hj => ?_⟩
    by_cases hji : j = i
    · subst hji; exact hy.wpOp hi hS ⟨hS, H⟩
    · exact absurd (H.1 j (ready_mono hj hji)) (anc_not hd hz hr hj)
  | succ f ih =>
    intro listed a w hd hfree hr hy hS H
    have hun := (mem_ready.1 hr).1
    refine ⟨fun h => (by rw [h] at hr; cases hr), fun j hj => ?_⟩
    by_cases hji : j = i
    · subst hji; exact hy.wpOp hi hS ⟨hS, H⟩
    · obtain ⟨hjun, oj, hoj, hall⟩ := mem_ready.1 hj
      have hno : ∀ e ∈ oj.after, Region.binds md e = true → e.on ≠ i := fun e he hb q => by
        have := hall e he hb
        rw [q, getD_both hun] at this
        cases this
      have h2 := wpOp_putIf hoj (hfree j oj hoj hji hjun hno) (fun cs b => hsel i oi cs b hi) (fun cs b => hsel j oj cs b hoj) (fun c a w q => hQ c a _ _ w q) hy (H.2 j (ready_mono hj hji))
      refine wpOp_mono (fun a' w' h3 => ⟨h3.2.1, ih (listed.setIfInBounds j true) a' w' (hd.set_ hj) (fun k ok hk hki hku hkn => hfree k ok hk hki ?_ hkn) (ready_mono hr (Ne.symm hji)) h3.1 h3.2.1 ?_⟩) h2
      · by_cases q : j = k
        · subst q; exact hjun
        · rw [getD_set_ne true q] at hku; exact hku
      · rw [Array.setIfInBounds_comm _ _ hji]; exact h3.2.2
theorem batchD {K : Act → Prop} {w : World} {N g : Nat} (hsel : Region.noSelect ops = true) (hQ : ∀ c a d v w, Q (.panic c) (a.put d v) w → Q (.panic c) a w) (hS : S w) :
    ∀ (l : List Oper) (k : Nat) (listed : Array Bool) (a : Act), DownL md ops listed → (∀ j, j < l.length → ancB md ops (k + j) N z = true) → (∀ j, j < l.length → l[j]? = ops[k + j]?) → lexS md ops l.length k listed = true → l.all readB = true →
    (∀ a', K a' → DownL md ops (setsB l.length k listed) → wpAnyT P md ops Q S t z g (setsB l.length k listed) a' w) → wpQuiet P ops S K l a → wpAnyT P md ops Q S t z (g + l.length) listed a w
  | [], k, listed, a, hd, _, _, _, _, hK, h => hK a h hd
  | o :: l, k, listed, a, hd, hz, hl, hB, hR, hK, h => by
    have h0 : ops[k]? = some o := by simpa using (hl 0 (by simp)).symm
    simp only [List.length_cons, lexS, Bool.and_eq_true] at hB
    simp only [List.all_cons, Bool.and_eq_true] at hR
    obtain ⟨⟨hr, hf⟩, hB2⟩ := hB
    have hr2 : k ∈ Region.ready md ops listed := by simpa using hr
    have hz0 : ancB md ops k N z = true := by simpa using hz 0 (by simp)
    have key : ∀ (v : Value), YieldsIf P ops S o v a → wpQuiet P ops S K l (a.put o.dst v) → wpAnyT P md ops Q S t z (g + (l.length + 1)) listed a w := fun v hy h2 =>
      firstD hz0 h0 (Region.noSelect_spec hsel) hQ (g + l.length) listed a w hd (Region.free_spec h0 hf) hr2 hy hS
        (batchD hsel hQ hS l (k + 1) _ _ (hd.set_ hr2) (fun j hj => by have := hz (j + 1) (by simp; omega); rwa [show k + (j + 1) = k + 1 + j by omega] at this) (fun j hj => by have := hl (j + 1) (by simp; omega); simpa [Nat.add_assoc, Nat.add_comm 1 j] using this) hB2 hR.2 hK h2)
    unfold wpQuiet at h
    split at h
    · rename_i hw
      obtain ⟨v, h1, h2⟩ := h
      exact key v (yieldsIf_of_quiet hR.1 hw h1) h2
    · rename_i hw
      exact key undef (.inr ⟨by simpa using hw, rfl⟩) h
/-- The walk, as long as what is listed has all listed that it comes after. -/
def wpAnyD (P : Program) (md : Region.Mode) (ops : Array Oper) (Q : Exit → Act → World → Prop) (S : World → Prop) (t z f : Nat) (listed : Array Bool) (a : Act) (w : World) : Prop :=
  DownL md ops listed → wpAnyT P md ops Q S t z f listed a w
/-- The operations from k on, n of them, that only answer values. -/
theorem takeD {w : World} {l : List Oper} {a : Act} {listed : Array Bool} (g k n : Nat) (hB : (Region.noSelect l.toArray && lexS md l.toArray n k listed && decide (k + n ≤ l.length) && (List.range n).all (fun j => ancB md l.toArray (k + j) 8 z)) = true) (hR : ((l.drop k).take n).all readB = true)
    (hQ : ∀ c a d v w, Q (.panic c) (a.put d v) w → Q (.panic c) a w) (hS : S w) (h : wpQuiet P l.toArray S (fun a' => wpAnyD P md l.toArray Q S t z g (setsB n k listed) a' w) ((l.drop k).take n) a) : wpAnyD P md l.toArray Q S t z (g + n) listed a w := fun hd => by
  simp only [Bool.and_eq_true, decide_eq_true_eq, List.all_eq_true, List.mem_range] at hB
  obtain ⟨⟨⟨hsel, hlex⟩, hkn⟩, hz⟩ := hB
  have hlen : ((l.drop k).take n).length = n := by simp; omega
  have := batchD (md := md) (N := 8) (g := g) hsel hQ hS ((l.drop k).take n) k listed a hd (fun j hj => hz j (by rw [hlen] at hj; exact hj)) (fun j hj => by
    rw [hlen] at hj
    simp [List.getElem?_take, hj]) (by rw [hlen]; exact hlex) hR (fun a' ha hd' => by rw [hlen] at hd' ⊢; exact ha hd') h
  rwa [hlen] at this
/-- One operation alone may come. -/
theorem oneD {w : World} {l : List Oper} {a : Act} {listed : Array Bool} (f i : Nat) (hB : decide (Region.ready md l.toArray listed = [i]) = true) (hi : i < l.length)
    (h : wpList P l.toArray (Exit.then (fun a' w' => S w' ∧ wpAnyD P md l.toArray Q S t z f (listed.setIfInBounds i true) a' w') Q) ((l.drop i).take 1) a w) : wpAnyD P md l.toArray Q S t z (f + 1) listed a w := fun hd => by
  have hr := of_decide_eq_true hB
  refine ⟨by rw [hr]; simp, fun j hj => ?_⟩
  have hd2 := hd.set_ hj
  rw [hr, List.mem_singleton] at hj
  subst hj
  have hop : l.toArray[j]? = some (l[j]'hi) := by simp
  refine wpOp_mono (K := fun a' w' => S w' ∧ wpAnyD P md l.toArray Q S t z f (listed.setIfInBounds j true) a' w') (fun a' w' h3 => ⟨h3.1, h3.2 hd2⟩) (wpOp_of_list hop ?_)
  have h1 : (l.drop j).take 1 = [l[j]'hi] := by rw [List.drop_eq_getElem_cons hi]; rfl
  rw [← h1]
  exact h
/-- One of two may come. -/
theorem twoD {w : World} {l : List Oper} {a : Act} {listed : Array Bool} (f i j : Nat) (hB : decide (Region.ready md l.toArray listed = [i, j]) = true) (hi : i < l.length) (hj : j < l.length)
    (h : wpList P l.toArray (Exit.then (fun a' w' => S w' ∧ wpAnyD P md l.toArray Q S t z f (listed.setIfInBounds i true) a' w') Q) ((l.drop i).take 1) a w)
    (h' : wpList P l.toArray (Exit.then (fun a' w' => S w' ∧ wpAnyD P md l.toArray Q S t z f (listed.setIfInBounds j true) a' w') Q) ((l.drop j).take 1) a w) : wpAnyD P md l.toArray Q S t z (f + 1) listed a w := fun hd => by
  have hr := of_decide_eq_true hB
  refine ⟨by rw [hr]; simp, fun k hk => ?_⟩
  have hd2 := hd.set_ hk
  rw [hr] at hk
  simp only [List.mem_cons, List.not_mem_nil, or_false] at hk
  rcases hk with rfl | rfl
  · have hop : l.toArray[k]? = some (l[k]'hi) := by simp
    refine wpOp_mono (K := fun a' w' => S w' ∧ wpAnyD P md l.toArray Q S t z f (listed.setIfInBounds k true) a' w') (fun a' w' h3 => ⟨h3.1, h3.2 hd2⟩) (wpOp_of_list hop ?_)
    have h1 : (l.drop k).take 1 = [l[k]'hi] := by rw [List.drop_eq_getElem_cons hi]; rfl
    rw [← h1]
    exact h
  · have hop : l.toArray[k]? = some (l[k]'hj) := by simp
    refine wpOp_mono (K := fun a' w' => S w' ∧ wpAnyD P md l.toArray Q S t z f (listed.setIfInBounds k true) a' w') (fun a' w' h3 => ⟨h3.1, h3.2 hd2⟩) (wpOp_of_list hop ?_)
    have h1 : (l.drop k).take 1 = [l[k]'hj] := by rw [List.drop_eq_getElem_cons hj]; rfl
    rw [← h1]
    exact h'
/-- The tail, from z on, in the order of the text. -/
theorem endD {w : World} {l : List Oper} {a : Act} {listed : Array Bool} (hB : (decide (Region.ready md l.toArray listed = [z]) && Region.seqB md l.toArray (l.drop z).length z listed && decide ((l.drop z).length = t)) = true)
    (h : wpList P l.toArray Q (l.drop z) a w) : wpAnyD P md l.toArray Q S t z 0 listed a w := fun _ => endT hB h
theorem wp_region_D {id : Nat} {a : Act} {w : World} {l : List Oper} (S : World → Prop) (t z : Nat) (hm : P.follows .mixedOrders = true) (f : Nat) (hf : f + t = l.toArray.size) (h : wpAnyD P .any l.toArray Q S t z f (Array.replicate l.toArray.size false) a w.drew) : (Code.region id l.toArray true).wp P Q a w :=
  wp_region_T S t z hm f hf (h downL_start)
end
end Go.Proofs.YtiklbannoinioaaDoor
