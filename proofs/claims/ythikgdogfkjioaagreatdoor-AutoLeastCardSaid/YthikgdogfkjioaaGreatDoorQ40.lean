/- As Ret, but what comes ahead of the tail may come ahead of it by several steps. · Plain: numbers as texts, and the texts that parts are told by: no two lists have one text. No program here. -/
import Derived.Test.YthikgdogfkjioaaGreatDoorQ35
import Derived.Test.YthikgdogfkjioaaGreatDoorQ12
import Derived.Lib.ItoaNum
namespace Go.Proofs.YthikgdogfkjioaaGreatDoor
open Go
set_option linter.unusedVariables false
set_option linter.unusedSimpArgs false

section
variable {P : Program} {ops : Array Oper} {md : Region.Mode} {Q : Exit → Act → World → Prop} {S : World → Prop} {t z : Nat}
/-- What is listed has all listed that it comes after. -/
def DownL (md : Region.Mode) (ops : Array Oper) (listed : Array Bool) : Prop := ∀ (j : Nat) (o : Oper), ops[j]? = some o → listed.getD j false = true → ∀ e ∈ o.after, Region.binds md e = true → listed.getD e.on false = true
theorem downL_start : DownL md ops (Array.replicate ops.size false) := fun j o hj h => by
  rw [getD_replicate_false] at h; cases h
theorem DownL.set_ {listed : Array Bool} {i : Nat} (h : DownL md ops listed) (hi : i ∈ Region.ready md ops listed) : DownL md ops (listed.setIfInBounds i true) := fun j o hj hl e he hb => by
  obtain ⟨hun, oi, hoi, hall⟩ := mem_ready.1 hi
  by_cases q2 : i = e.on
  · subst q2
    unfold Array.getD at hun ⊢
    simp only [Array.size_setIfInBounds]
    split at hun
    · rename_i hsz
      simp [hsz]
    · cases hun
  · rw [getD_set_ne false q2]
    by_cases q : i = j
    · subst q
      rw [hoi] at hj; cases hj
      exact hall e he hb
    · rw [getD_set_ne false q] at hl
      exact h j o hj hl e he hb
/-- Operation i comes ahead of operation z, by n steps at most. -/
def ancB (md : Region.Mode) (ops : Array Oper) (i : Nat) : Nat → Nat → Bool
  | 0, _ => false
  | n + 1, z => match ops[z]? with
    | some o => o.after.toList.any fun e => Region.binds md e && (e.on == i || ancB md ops i n e.on)
    | none => false
theorem anc_listed {i : Nat} {listed : Array Bool} (hd : DownL md ops listed) : ∀ (n z : Nat), ancB md ops i n z = true → listed.getD z false = true → listed.getD i false = true
  | 0, _, h, _ => by cases h
  | n + 1, z, h, hl => by
    unfold ancB at h
    split at h
    · rename_i o ho
      simp only [List.any_eq_true, Bool.and_eq_true, Bool.or_eq_true, beq_iff_eq] at h
      obtain ⟨e, he, hb, q⟩ := h
      have he2 := hd z o ho hl e (Array.mem_toList_iff.1 he) hb
      rcases q with q | q
      · rw [← q]; exact he2
      · exact anc_listed hd n e.on q he2
    · cases h
theorem anc_not {n i j : Nat} {listed : Array Bool} (hd : DownL md ops listed) (hz : ancB md ops i n z = true) (hi : i ∈ Region.ready md ops listed) (hj : j ∈ Region.ready md ops listed) : j ≠ z := by
  rintro rfl
  obtain ⟨hjun, oj, hoj, hall⟩ := mem_ready.1 hj
  obtain ⟨hun, oi, hoi, _⟩ := mem_ready.1 hi
  have hf := getD_both hun
  cases n with
  | zero => cases hz
  | succ n =>
    unfold ancB at hz
    rw [hoj] at hz
    simp only [List.any_eq_true, Bool.and_eq_true, Bool.or_eq_true, beq_iff_eq] at hz
    obtain ⟨e, he, hb, q⟩ := hz
    have he2 := hall e (Array.mem_toList_iff.1 he) hb
    rcases q with q | q
    · rw [q, hf] at he2; cases he2
    · have := anc_listed hd n e.on q he2
      rw [hf] at this; cases this
theorem firstD {N i : Nat} {oi : Oper} {v : Value} (hz : ancB md ops i N z = true) (hi : ops[i]? = some oi) (hsel : ∀ (j : Nat) (o : Oper) cs b, ops[j]? = some o → o.op ≠ .select cs b)
    (hQ : ∀ c a d v w, Q (.panic c) (a.put d v) w → Q (.panic c) a w) :
    ∀ (f : Nat) (listed : Array Bool) (a : Act) (w : World), DownL md ops listed →
      (∀ j oj, ops[j]? = some oj → j ≠ i → listed.getD j true = false → (∀ e ∈ oj.after, Region.binds md e = true → e.on ≠ i) → oi.apart ops oj = true) →
      i ∈ Region.ready md ops listed → YieldsIf P ops S oi v a → S w →
      wpAnyT P md ops Q S t z f (listed.setIfInBounds i true) (a.put oi.dst v) w → wpAnyT P md ops Q S t z (f + 1) listed a w := by
  intro f
  induction f with
  | zero =>
    intro listed a w hd _ hr hy hS H
    refine ⟨fun h => (by rw [h] at hr; cases hr), fun j hj => ?_⟩
    by_cases hji : j = i
    · subst hji; exact hy.wpOp hi hS ⟨hS, H⟩
    · exact absurd (H.1 j (ready_mono hj hji)) (anc_not hd hz hr hj)
  | succ f ih =>
    intro listed a w hd hfree hr hy hS H
    have hun := (mem_ready.1 hr).1
    refine ⟨fun h => (by rw [h] at hr; cases hr), fun j hj => ?_⟩
    by_cases hji : j = i
    · subst hji; exact hy.wpOp hi hS ⟨hS, H⟩
    · obtain ⟨hjun, oj, hoj, hall⟩ := mem_ready.1 hj
      have hno : ∀ e ∈ oj.after, Region.binds md e = true → e.on ≠ i := fun e he hb q => by
        have := hall e he hb
        rw [q, getD_both hun] at this
        cases this
      have h2 := wpOp_putIf hoj (hfree j oj hoj hji hjun hno) (fun cs b => hsel i oi cs b hi) (fun cs b => hsel j oj cs b hoj) (fun c a w q => hQ c a _ _ w q) hy (H.2 j (ready_mono hj hji))
      refine wpOp_mono (fun a' w' h3 => ⟨h3.2.1, ih (listed.setIfInBounds j true) a' w' (hd.set_ hj) (fun k ok hk hki hku hkn => hfree k ok hk hki ?_ hkn) (ready_mono hr (Ne.symm hji)) h3.1 h3.2.1 ?_⟩) h2
      · by_cases q : j = k
        · subst q; exact hjun
        · rw [getD_set_ne true q] at hku; exact hku
      · rw [Array.setIfInBounds_comm _ _ hji]; exact h3.2.2
theorem batchD {K : Act → Prop} {w : World} {N g : Nat} (hsel : Region.noSelect ops = true) (hQ : ∀ c a d v w, Q (.panic c) (a.put d v) w → Q (.panic c) a w) (hS : S w) :
    ∀ (l : List Oper) (k : Nat) (listed : Array Bool) (a : Act), DownL md ops listed → (∀ j, j < l.length → ancB md ops (k + j) N z = true) → (∀ j, j < l.length → l[j]? = ops[k + j]?) → lexS md ops l.length k listed = true → l.all readB = true →
    (∀ a', K a' → DownL md ops (setsB l.length k listed) → wpAnyT P md ops Q S t z g (setsB l.length k listed) a' w) → wpQuiet P ops S K l a → wpAnyT P md ops Q S t z (g + l.length) listed a w
  | [], k, listed, a, hd, _, _, _, _, hK, h => hK a h hd
  | o :: l, k, listed, a, hd, hz, hl, hB, hR, hK, h => by
    have h0 : ops[k]? = some o := by simpa using (hl 0 (by simp)).symm
    simp only [List.length_cons, lexS, Bool.and_eq_true] at hB
    simp only [List.all_cons, Bool.and_eq_true] at hR
    obtain ⟨⟨hr, hf⟩, hB2⟩ := hB
    have hr2 : k ∈ Region.ready md ops listed := by simpa using hr
    have hz0 : ancB md ops k N z = true := by simpa using hz 0 (by simp)
    have key : ∀ (v : Value), YieldsIf P ops S o v a → wpQuiet P ops S K l (a.put o.dst v) → wpAnyT P md ops Q S t z (g + (l.length + 1)) listed a w := fun v hy h2 =>
      firstD hz0 h0 (Region.noSelect_spec hsel) hQ (g + l.length) listed a w hd (Region.free_spec h0 hf) hr2 hy hS
        (batchD hsel hQ hS l (k + 1) _ _ (hd.set_ hr2) (fun j hj => by have := hz (j + 1) (by simp; omega); rwa [show k + (j + 1) = k + 1 + j by omega] at this) (fun j hj => by have := hl (j + 1) (by simp; omega); simpa [Nat.add_assoc, Nat.add_comm 1 j] using this) hB2 hR.2 hK h2)
    unfold wpQuiet at h
    split at h
    · rename_i hw
      obtain ⟨v, h1, h2⟩ := h
      exact key v (yieldsIf_of_quiet hR.1 hw h1) h2
    · rename_i hw
      exact key undef (.inr ⟨by simpa using hw, rfl⟩) h
/-- The walk, as long as what is listed has all listed that it comes after. -/
def wpAnyD (P : Program) (md : Region.Mode) (ops : Array Oper) (Q : Exit → Act → World → Prop) (S : World → Prop) (t z f : Nat) (listed : Array Bool) (a : Act) (w : World) : Prop :=
  DownL md ops listed → wpAnyT P md ops Q S t z f listed a w
/-- The operations from k on, n of them, that only answer values. -/
theorem takeD {w : World} {l : List Oper} {a : Act} {listed : Array Bool} (g k n : Nat) (hB : (Region.noSelect l.toArray && lexS md l.toArray n k listed && decide (k + n ≤ l.length) && (List.range n).all (fun j => ancB md l.toArray (k + j) 8 z)) = true) (hR : ((l.drop k).take n).all readB = true)
    (hQ : ∀ c a d v w, Q (.panic c) (a.put d v) w → Q (.panic c) a w) (hS : S w) (h : wpQuiet P l.toArray S (fun a' => wpAnyD P md l.toArray Q S t z g (setsB n k listed) a' w) ((l.drop k).take n) a) : wpAnyD P md l.toArray Q S t z (g + n) listed a w := fun hd => by
  simp only [Bool.and_eq_true, decide_eq_true_eq, List.all_eq_true, List.mem_range] at hB
  obtain ⟨⟨⟨hsel, hlex⟩, hkn⟩, hz⟩ := hB
  have hlen : ((l.drop k).take n).length = n := by simp; omega
  have := batchD (md := md) (N := 8) (g := g) hsel hQ hS ((l.drop k).take n) k listed a hd (fun j hj => hz j (by rw [hlen] at hj; exact hj)) (fun j hj => by
    rw [hlen] at hj
    simp [List.getElem?_take, hj]) (by rw [hlen]; exact hlex) hR (fun a' ha hd' => by rw [hlen] at hd' ⊢; exact ha hd') h
  rwa [hlen] at this
/-- One operation alone may come. -/
theorem oneD {w : World} {l : List Oper} {a : Act} {listed : Array Bool} (f i : Nat) (hB : decide (Region.ready md l.toArray listed = [i]) = true) (hi : i < l.length)
    (h : wpList P l.toArray (Exit.then (fun a' w' => S w' ∧ wpAnyD P md l.toArray Q S t z f (listed.setIfInBounds i true) a' w') Q) ((l.drop i).take 1) a w) : wpAnyD P md l.toArray Q S t z (f + 1) listed a w := fun hd => by
  have hr := of_decide_eq_true hB
  refine ⟨by rw [hr]; simp, fun j hj => ?_⟩
  have hd2 := hd.set_ hj
  rw [hr, List.mem_singleton] at hj
  subst hj
  have hop : l.toArray[j]? = some (l[j]'hi) := by simp
  refine wpOp_mono (K := fun a' w' => S w' ∧ wpAnyD P md l.toArray Q S t z f (listed.setIfInBounds j true) a' w') (fun a' w' h3 => ⟨h3.1, h3.2 hd2⟩) (wpOp_of_list hop ?_)
  have h1 : (l.drop j).take 1 = [l[j]'hi] := by rw [List.drop_eq_getElem_cons hi]; rfl
  rw [← h1]
  exact h
/-- One of two may come. -/
theorem twoD {w : World} {l : List Oper} {a : Act} {listed : Array Bool} (f i j : Nat) (hB : decide (Region.ready md l.toArray listed = [i, j]) = true) (hi : i < l.length) (hj : j < l.length)
    (h : wpList P l.toArray (Exit.then (fun a' w' => S w' ∧ wpAnyD P md l.toArray Q S t z f (listed.setIfInBounds i true) a' w') Q) ((l.drop i).take 1) a w)
    (h' : wpList P l.toArray (Exit.then (fun a' w' => S w' ∧ wpAnyD P md l.toArray Q S t z f (listed.setIfInBounds j true) a' w') Q) ((l.drop j).take 1) a w) : wpAnyD P md l.toArray Q S t z (f + 1) listed a w := fun hd => by
  have hr := of_decide_eq_true hB
  refine ⟨by rw [hr]; simp, fun k hk => ?_⟩
  have hd2 := hd.set_ hk
  rw [hr] at hk
  simp only [List.mem_cons, List.not_mem_nil, or_false] at hk
  rcases hk with rfl | rfl
  · have hop : l.toArray[k]? = some (l[k]'hi) := by simp
    refine wpOp_mono (K := fun a' w' => S w' ∧ wpAnyD P md l.toArray Q S t z f (listed.setIfInBounds k true) a' w') (fun a' w' h3 => ⟨h3.1, h3.2 hd2⟩) (wpOp_of_list hop ?_)
    have h1 : (l.drop k).take 1 = [l[k]'hi] := by rw [List.drop_eq_getElem_cons hi]; rfl
    rw [← h1]
    exact h
  · have hop : l.toArray[k]? = some (l[k]'hj) := by simp
    refine wpOp_mono (K := fun a' w' => S w' ∧ wpAnyD P md l.toArray Q S t z f (listed.setIfInBounds k true) a' w') (fun a' w' h3 => ⟨h3.1, h3.2 hd2⟩) (wpOp_of_list hop ?_)
    have h1 : (l.drop k).take 1 = [l[k]'hj] := by rw [List.drop_eq_getElem_cons hj]; rfl
    rw [← h1]
    exact h'
/-- The tail, from z on, in the order of the text. -/
theorem endD {w : World} {l : List Oper} {a : Act} {listed : Array Bool} (hB : (decide (Region.ready md l.toArray listed = [z]) && Region.seqB md l.toArray (l.drop z).length z listed && decide ((l.drop z).length = t)) = true)
    (h : wpList P l.toArray Q (l.drop z) a w) : wpAnyD P md l.toArray Q S t z 0 listed a w := fun _ => endT hB h
theorem wp_region_D {id : Nat} {a : Act} {w : World} {l : List Oper} (S : World → Prop) (t z : Nat) (hm : P.follows .mixedOrders = true) (f : Nat) (hf : f + t = l.toArray.size) (h : wpAnyD P .any l.toArray Q S t z f (Array.replicate l.toArray.size false) a w.drew) : (Code.region id l.toArray true).wp P Q a w :=
  wp_region_T S t z hm f hf (h downL_start)
end
end Go.Proofs.YthikgdogfkjioaaGreatDoor
namespace Go.Proofs.YthikgdogfkjioaaGreatDoor
set_option linter.unusedVariables false
set_option linter.unusedSimpArgs false

theorem dig_ne_comma : ∀ (u : Nat), ∀ c ∈ Lib.decDigits u, c ≠ 44
  | u, c, h => by
    rw [Lib.decDigits] at h
    by_cases q : u < 10
    · rw [dif_pos q, List.mem_singleton] at h
      subst h
      have : u = 0 ∨ u = 1 ∨ u = 2 ∨ u = 3 ∨ u = 4 ∨ u = 5 ∨ u = 6 ∨ u = 7 ∨ u = 8 ∨ u = 9 := by omega
      rcases this with rfl | rfl | rfl | rfl | rfl | rfl | rfl | rfl | rfl | rfl <;> decide
    · rw [dif_neg q, List.mem_append, List.mem_singleton] at h
      rcases h with h | h
      · exact dig_ne_comma (u / 10) c h
      · subst h
        have hm : u % 10 < 10 := Nat.mod_lt _ (by omega)
        generalize u % 10 = v at hm ⊢
        have : v = 0 ∨ v = 1 ∨ v = 2 ∨ v = 3 ∨ v = 4 ∨ v = 5 ∨ v = 6 ∨ v = 7 ∨ v = 8 ∨ v = 9 := by omega
        rcases this with rfl | rfl | rfl | rfl | rfl | rfl | rfl | rfl | rfl | rfl <;> decide
termination_by u => u
decreasing_by omega
theorem digit_inj {a b : Nat} (ha : a < 10) (hb : b < 10) (h : UInt8.ofNat (48 + a) = UInt8.ofNat (48 + b)) : a = b := by
  have := congrArg UInt8.toNat h
  simp only [UInt8.toNat_ofNat'] at this
  omega
theorem dec_ne (u : Nat) : Lib.decDigits u ≠ [] := by
  rw [Lib.decDigits]
  split <;> simp
theorem dec_inj : ∀ (u v : Nat), Lib.decDigits u = Lib.decDigits v → u = v
  | u, v, h => by
    have hu : Lib.decDigits u = if u < 10 then [UInt8.ofNat (48 + u)] else Lib.decDigits (u / 10) ++ [UInt8.ofNat (48 + u % 10)] := by
      rw [Lib.decDigits]; split <;> rfl
    have hv : Lib.decDigits v = if v < 10 then [UInt8.ofNat (48 + v)] else Lib.decDigits (v / 10) ++ [UInt8.ofNat (48 + v % 10)] := by
      rw [Lib.decDigits]; split <;> rfl
    rw [hu, hv] at h
    by_cases q : u < 10
    · by_cases r : v < 10
      · rw [if_pos q, if_pos r] at h
        exact digit_inj q r (by simpa using h)
      · rw [if_pos q, if_neg r] at h
        have := congrArg List.length h
        have h2 := List.length_pos_iff.2 (dec_ne (v / 10))
        simp at this
        exact absurd this (dec_ne _)
    · by_cases r : v < 10
      · rw [if_neg q, if_pos r] at h
        have := congrArg List.length h
        simp at this
        exact absurd this (dec_ne _)
      · rw [if_neg q, if_neg r] at h
        obtain ⟨h1, h2⟩ := List.append_inj' h rfl
        have e1 := dec_inj (u / 10) (v / 10) h1
        have e2 := digit_inj (Nat.mod_lt u (by omega)) (Nat.mod_lt v (by omega)) (by simpa using h2)
        omega
termination_by u => u
decreasing_by omega
/-- A part's text. -/
def keyT (k : Nat × List Nat) : List UInt8 := Lib.decDigits k.1 ++ k.2.flatMap fun x => 44 :: Lib.decDigits x
theorem split_comma : ∀ {a b r s : List UInt8}, (∀ c ∈ a, c ≠ 44) → (∀ c ∈ b, c ≠ 44) → (r = [] ∨ ∃ t, r = 44 :: t) → (s = [] ∨ ∃ t, s = 44 :: t) → a ++ r = b ++ s → a = b ∧ r = s
  | [], [], r, s, _, _, _, _, h => ⟨rfl, by simpa using h⟩
  | [], y :: b, r, s, _, hb, hr, _, h => by
    rcases hr with rfl | ⟨t, rfl⟩
    · simp at h
    · simp only [List.nil_append, List.cons_append, List.cons.injEq] at h
      exact absurd h.1.symm (hb y (List.mem_cons_self ..))
  | x :: a, [], r, s, ha, _, _, hs, h => by
    rcases hs with rfl | ⟨t, rfl⟩
    · simp at h
    · simp only [List.nil_append, List.cons_append, List.cons.injEq] at h
      exact absurd h.1 (ha x (List.mem_cons_self ..))
  | x :: a, y :: b, r, s, ha, hb, hr, hs, h => by
    simp only [List.cons_append, List.cons.injEq] at h
    obtain ⟨e1, e2⟩ := split_comma (fun c hc => ha c (List.mem_cons_of_mem _ hc)) (fun c hc => hb c (List.mem_cons_of_mem _ hc)) hr hs h.2
    exact ⟨by rw [h.1, e1], e2⟩
theorem tail_form (l : List Nat) : (l.flatMap fun x => (44 : UInt8) :: Lib.decDigits x) = [] ∨ ∃ t, (l.flatMap fun x => (44 : UInt8) :: Lib.decDigits x) = 44 :: t := by
  cases l with
  | nil => exact .inl rfl
  | cons x l => exact .inr ⟨_, by rw [List.flatMap_cons, List.cons_append]⟩
theorem tail_inj : ∀ (l k : List Nat), (l.flatMap fun x => (44 : UInt8) :: Lib.decDigits x) = (k.flatMap fun x => (44 : UInt8) :: Lib.decDigits x) → l = k
  | [], [], _ => rfl
  | [], y :: k, h => by rw [List.flatMap_cons, List.cons_append] at h; cases h
  | x :: l, [], h => by rw [List.flatMap_cons, List.cons_append] at h; cases h
  | x :: l, y :: k, h => by
    rw [List.flatMap_cons, List.flatMap_cons, List.cons_append, List.cons_append, List.cons.injEq] at h
    obtain ⟨e1, e2⟩ := split_comma (dig_ne_comma x) (dig_ne_comma y) (tail_form l) (tail_form k) h.2
    rw [dec_inj _ _ e1, tail_inj l k e2]
/-- No two have one text. -/
theorem keyT_inj {a b : Nat × List Nat} (h : keyT a = keyT b) : a = b := by
  obtain ⟨e1, e2⟩ := split_comma (dig_ne_comma a.1) (dig_ne_comma b.1) (tail_form a.2) (tail_form b.2) h
  exact Prod.ext (dec_inj _ _ e1) (tail_inj _ _ e2)
end Go.Proofs.YthikgdogfkjioaaGreatDoor
