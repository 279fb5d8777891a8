/- Rows of truths: a list of slices of truths, each row in a block of its own; add, newSets. -/
import Derived.Test.YtgfchgnebpogjaaLv
import Derived.BigRegion
namespace Go.Proofs.Ytgfchgnebpogjaa
open Go.RowKit BigFrame
set_option linter.unusedVariables false
set_option linter.unusedSimpArgs false
set_option maxRecDepth 100000

theorem elSet : ElTy Try.prog 61 38 1 24 (.slice none 0 0) := ⟨Try.underlying61, by kernel_rfl, rfl, by decide⟩

/-- Row k of rows. -/
def rowB (M : List (List Bool)) (k : Nat) : List Bool := M.getD k []
theorem rowB_get {M : List (List Bool)} {k : Nat} (h : k < M.length) : rowB M k = M[k] := by simp [rowB, h]
theorem rowB_set {M : List (List Bool)} {k j : Nat} {r : List Bool} (hk : k < M.length) : rowB (M.set k r) j = if k = j then r else rowB M j := by
  unfold rowB
  by_cases h : k = j
  · subst h; simp [List.getD, hk]
  · simp [List.getD, h]
def nthN (l : List Nat) (k : Nat) : Nat := l.getD k 0
theorem nthN_get {l : List Nat} {k : Nat} (h : k < l.length) : nthN l k = l[k] := by simp [nthN, h]

/-- The rows M: the block D has their slices, row k lies in block number k of ρ. -/
structure MtSt (w : World) (D N T : Nat) (ρ : List Nat) (M : List (List Bool)) : Prop where
  dl : D < w.heap.size
  d : ∀ k, k < N → w.cell? ⟨D, k, none⟩ = some (.slice (some ⟨nthN ρ k, 0, none⟩) T T)
  rl : ρ.length = N
  ml : M.length = N
  nd : ∀ i j, i < N → j < N → nthN ρ i = nthN ρ j → i = j
  ne : ∀ i, i < N → nthN ρ i ≠ D
  rows : ∀ k, k < N → Blk w (nthN ρ k) 4 (bv (rowB M k)) ∧ (rowB M k).length = T
section
variable {w w' : World} {D N T : Nat} {ρ : List Nat} {M : List (List Bool)}
theorem MtSt.cell (h : MtSt w D N T ρ M) {k : Nat} (hk : k < N) : w.cell? ⟨D, k, none⟩ = some (.slice (some ⟨nthN ρ k, 0, none⟩) T T) := h.d k hk
theorem MtSt.keep {S : Nat → Prop} (h : MtSt w D N T ρ M) (hk : Kp S w w') (hD : ¬ S D) (hr : ∀ k, k < N → ¬ S (nthN ρ k)) : MtSt w' D N T ρ M :=
  ⟨Nat.lt_of_lt_of_le h.dl hk.size, fun k hkn => (hk.cell (p := ⟨D, k, none⟩) h.dl hD).trans (h.d k hkn), h.rl, h.ml, h.nd, h.ne, fun k hkn => ⟨(hk.block _ (h.rows k hkn).1.lt (hr k hkn)).trans (h.rows k hkn).1, (h.rows k hkn).2⟩⟩
theorem MtSt.below (h : MtSt w D N T ρ M) (hb : Below w.heap.size w w') : MtSt w' D N T ρ M := h.keep (S := fun _ => False) (Kp.of hb) (fun e => e) (fun _ _ e => e)
/-- One row turned: only its block has changed. -/
theorem MtSt.set_ (h : MtSt w D N T ρ M) {k : Nat} (hk : k < N) {r : List Bool} (hr : r.length = T) (hkp : Kp (fun j => j = nthN ρ k) w w') (hb : Blk w' (nthN ρ k) 4 (bv r)) : MtSt w' D N T ρ (M.set k r) := by
  refine ⟨Nat.lt_of_lt_of_le h.dl hkp.size, fun j hj => (hkp.cell (p := ⟨D, j, none⟩) h.dl (fun e => h.ne k hk e.symm)).trans (h.d j hj), h.rl, by rw [List.length_set]; exact h.ml, h.nd, h.ne, fun j hj => ?_⟩
  rw [rowB_set (by rw [h.ml]; exact hk)]
  by_cases e : k = j
  · subst e; rw [if_pos rfl]; exact ⟨hb, hr⟩
  · rw [if_neg e]
    exact ⟨(hkp.block _ (h.rows j hj).1.lt (fun q => e (h.nd j k hj hk q).symm)).trans (h.rows j hj).1, (h.rows j hj).2⟩
end

/-! ### add -/
def orB (a c : List Bool) : List Bool := List.zipWith (· || ·) a c
theorem orB_len {a c : List Bool} {T : Nat} (ha : a.length = T) (hc : c.length = T) : (orB a c).length = T := by unfold orB; rw [List.length_zipWith]; omega
theorem orB_nth {a c : List Bool} {T k : Nat} (ha : a.length = T) (hc : c.length = T) (hk : k < T) : bth (orB a c) k = (bth a k || bth c k) := by
  rw [bth_get (by rw [orB_len ha hc]; exact hk), bth_get (by omega), bth_get (by omega)]
  unfold orB; simp
/-- Something of c is not in a. -/
def newB (a c : List Bool) : Bool := (List.zipWith (fun x y => y && !x) a c).any id
/-- The first k of c added. -/
def orK (a c : List Bool) (k : Nat) : List Bool := orB (a.take k) (c.take k) ++ a.drop k
theorem orK_nth {a c : List Bool} {T k j : Nat} (ha : a.length = T) (hc : c.length = T) (hk : k ≤ T) (hj : j < T) : bth (orK a c k) j = if j < k then (bth a j || bth c j) else bth a j := by
  have l1 : (orB (a.take k) (c.take k)).length = k := orB_len (by rw [List.length_take]; omega) (by rw [List.length_take]; omega)
  unfold orK bth
  rw [List.getD_eq_getElem?_getD]
  by_cases h : j < k
  · rw [if_pos h, List.getElem?_append_left (by omega)]
    have := orB_nth (a := a.take k) (c := c.take k) (T := k) (k := j) (by rw [List.length_take]; omega) (by rw [List.length_take]; omega) h
    unfold bth at this
    rw [List.getD_eq_getElem?_getD] at this
    rw [this]
    simp [List.getD, h]
  · rw [if_neg h, List.getElem?_append_right (by omega), l1]
    simp [List.getD]
    rw [show k + (j - k) = j by omega]
theorem orK_len {a c : List Bool} {T k : Nat} (ha : a.length = T) (hc : c.length = T) (hk : k ≤ T) : (orK a c k).length = T := by
  unfold orK
  rw [List.length_append, orB_len (T := k) (by rw [List.length_take]; omega) (by rw [List.length_take]; omega), List.length_drop]; omega
theorem bth_ext {a b : List Bool} {T : Nat} (ha : a.length = T) (hb : b.length = T) (h : ∀ j, j < T → bth a j = bth b j) : a = b := by
  apply List.ext_getElem (by omega)
  intro j h1 h2
  have := h j (by omega)
  rwa [bth_get h1, bth_get h2] at this
theorem orK_same {a c : List Bool} {T k : Nat} (ha : a.length = T) (hc : c.length = T) (hk : k < T) (h : bth c k = false ∨ bth a k = true) : orK a c (k + 1) = orK a c k := by
  refine bth_ext (orK_len ha hc hk) (orK_len ha hc (by omega)) fun j hj => ?_
  rw [orK_nth ha hc hk hj, orK_nth ha hc (by omega) hj]
  by_cases e : j = k
  · subst e
    rw [if_pos (by omega), if_neg (by omega)]
    rcases h with h | h <;> rw [h] <;> simp
  · by_cases h2 : j < k
    · rw [if_pos (by omega), if_pos h2]
    · rw [if_neg (by omega), if_neg h2]
theorem orK_set {a c : List Bool} {T k : Nat} (ha : a.length = T) (hc : c.length = T) (hk : k < T) (h : bth c k = true) : orK a c (k + 1) = (orK a c k).set k true := by
  refine bth_ext (orK_len ha hc hk) (by rw [List.length_set]; exact orK_len ha hc (by omega)) fun j hj => ?_
  rw [orK_nth ha hc hk hj, bth_set (by rw [orK_len ha hc (by omega)]; exact hk), orK_nth ha hc (by omega) hj]
  by_cases e : j = k
  · subst e
    rw [if_pos (by omega), if_pos rfl, h]; simp
  · have e2 : ¬ k = j := fun q => e q.symm
    by_cases h2 : j < k
    · rw [if_pos (by omega), if_neg e2, if_pos h2]
    · rw [if_neg (by omega), if_neg e2, if_neg h2]
theorem orK_all {a c : List Bool} {T : Nat} (ha : a.length = T) (hc : c.length = T) : orK a c T = orB a c := by
  unfold orK
  rw [List.take_of_length_le (by omega), List.take_of_length_le (by omega), List.drop_eq_nil_of_le (by omega), List.append_nil]
/-- News among the first k. -/
def newK (a c : List Bool) (k : Nat) : Bool := newB (a.take k) (c.take k)
theorem newK_snoc {a c : List Bool} {T k : Nat} (ha : a.length = T) (hc : c.length = T) (hk : k < T) : newK a c (k + 1) = (newK a c k || (bth c k && !bth a k)) := by
  unfold newK newB
  rw [List.take_succ_eq_append_getElem (by omega : k < a.length), List.take_succ_eq_append_getElem (by omega : k < c.length), List.zipWith_append (by rw [List.length_take, List.length_take]; omega), List.any_append, bth_get (by omega), bth_get (by omega)]
  simp
theorem newK_all {a c : List Bool} {T : Nat} (ha : a.length = T) (hc : c.length = T) : newK a c T = newB a c := by
  unfold newK
  rw [List.take_of_length_le (by omega), List.take_of_length_le (by omega)]

set_option maxHeartbeats 1000000 in
theorem add_ne (bt bf T : Nat) (a c : List Bool) (w : World) (hT : T ≤ 1000) (hne : bt ≠ bf) (ha : Blk w bt 4 (bv a)) (hc : Blk w bf 4 (bv c)) (la : a.length = T) (lc : c.length = T) :
    Calls Try.prog 62 #[.slice (some ⟨bt, 0, none⟩) T T, .slice (some ⟨bf, 0, none⟩) T T] w fun e w' => e = .returned (.bool (newB a c)) ∧ Blk w' bt 4 (bv (orB a c)) ∧ Kp (fun j => j = bt) w w' := by
  have HA := Lib.hid ha; have HC := Lib.hid hc; have LA := Lib.hid la; have LC := Lib.hid lc
  have hbf := hc.lt
  clear ha hc la lc
  go_enter Try.func62, Try.ntmps62
  go_wp2_with fail
  go_loopw [5, 10] (fun v i wr => ∃ k : Nat, ∃ q : Bool, k ≤ T ∧ i = .int .i64 k ∧ v = .bool q ∧ Hid (q = newK a c k) ∧ Kp (fun j => j = bt) w wr ∧ Hid (Blk wr bt 4 (bv (orK a c k)))) (fun _ i _ => T - (intOf i).toNat)
  case atStart => exact ⟨0, false, Nat.zero_le _, rfl, rfl, rfl, Kp.refl _ _, by show Blk _ _ _ _; unfold orK orB; simpa using HA.out⟩
  case round =>
    obtain ⟨k, q, hk, rfl, rfl, HQ, hkp, HB⟩ := hrel
    by_cases hlt : k < T
    · have zc := (hkp.cell (p := ⟨bf, k, none⟩) hbf (fun e => hne e.symm)).trans (HC.out.bcell (k := k) (by rw [LC.out]; exact hlt))
      have zt := HB.out.bcell (k := k) (by rw [orK_len LA.out LC.out hk]; exact hlt)
      have zf := HB.out.frozen k
      rw [orK_nth LA.out LC.out hk hlt, if_neg (by omega)] at zt
      have hsn := newK_snoc LA.out LC.out hlt
      rw [← HQ.out] at hsn
      cases hcv : bth c k
      · rw [hcv] at zc hsn
        have HS := Lib.hid hsn
        have HB1 : Hid (Blk wr bt 4 (bv (orK a c (k + 1)))) := Lib.hid (by rw [orK_same LA.out LC.out hlt (.inl hcv)]; exact HB.out)
        clear hsn hcv
        generalize bth a k = av at zt
        go_wp2
        go_roundw
        case rel => exact ⟨k + 1, q, by omega, by go_num, rfl, by show q = _; rw [HS.out]; simp, hkp, HB1⟩
        case measure => simp [intOf]; omega
      · cases hav : bth a k
        · rw [hcv] at zc hsn
          rw [hav] at zt hsn
          have HS := Lib.hid hsn
          have HOS := Lib.hid (orK_set LA.out LC.out hlt hcv)
          clear hsn hcv hav
          go_wp2
          go_roundw
          case rel => exact ⟨k + 1, true, by omega, by go_num, rfl, by show true = _; rw [HS.out]; simp, hkp.set_ (.inr rfl) _, by show Blk _ _ _ _; rw [HOS.out]; exact HB.out.bset k true⟩
          case measure => simp [intOf]; omega
        · rw [hcv] at zc hsn
          rw [hav] at zt hsn
          have HS := Lib.hid hsn
          have HB1 : Hid (Blk wr bt 4 (bv (orK a c (k + 1)))) := Lib.hid (by rw [orK_same LA.out LC.out hlt (.inr hav)]; exact HB.out)
          clear hsn hcv hav
          go_wp2
          go_roundw
          case rel => exact ⟨k + 1, q, by omega, by go_num, rfl, by show q = _; rw [HS.out]; simp, hkp, HB1⟩
          case measure => simp [intOf]; omega
    · have hkT : k = T := by omega
      have HQ2 : Hid (newB a c = q) := Lib.hid (by rw [← newK_all LA.out LC.out, ← hkT]; exact HQ.out.symm)
      have HB2 : Hid (Blk wr bt 4 (bv (orB a c))) := Lib.hid (by rw [← orK_all LA.out LC.out, ← hkT]; exact HB.out)
      clear hkT
      go_wp2
      go_ret
      exact ⟨ret_eq (by rw [HQ2.out]; rfl), HB2.out, hkp⟩

theorem newB_self (a : List Bool) : newB a a = false := by
  unfold newB
  induction a with
  | nil => rfl
  | cons x a ih => rw [List.zipWith_cons_cons, List.any_cons, ih]; cases x <;> rfl
theorem orB_self (a : List Bool) : orB a a = a := by
  unfold orB
  induction a with
  | nil => rfl
  | cons x a ih => rw [List.zipWith_cons_cons, ih]; cases x <;> rfl

theorem add_eq (bt T : Nat) (a : List Bool) (w : World) (hT : T ≤ 1000) (ha : Blk w bt 4 (bv a)) (la : a.length = T) :
    Calls Try.prog 62 #[.slice (some ⟨bt, 0, none⟩) T T, .slice (some ⟨bt, 0, none⟩) T T] w fun e w' => e = .returned (.bool (newB a a)) ∧ Blk w' bt 4 (bv (orB a a)) ∧ Kp (fun j => j = bt) w w' := by
  rw [newB_self, orB_self]
  have HA := Lib.hid ha; have LA := Lib.hid la
  clear ha la
  go_enter Try.func62, Try.ntmps62
  go_wp2_with fail
  go_loop [5, 10] (fun v i => ∃ k : Nat, k ≤ T ∧ i = .int .i64 k ∧ v = .bool false) (fun _ i => T - (intOf i).toNat)
  case atStart => exact ⟨0, Nat.zero_le _, rfl, rfl⟩
  case round =>
    obtain ⟨k, hk, rfl, rfl⟩ := hrel
    by_cases hlt : k < T
    · have zt := HA.out.bcell (k := k) (by rw [LA.out]; exact hlt)
      generalize bth a k = av at zt
      cases av
      all_goals
        go_wp2
        go_round
        case rel => exact ⟨k + 1, by omega, by go_num, rfl⟩
        case measure => simp [intOf]; omega
    · go_wp2
      go_ret
      exact ⟨rfl, HA.out, Kp.refl _ _⟩

theorem add_any (bt bf T : Nat) (a c : List Bool) (w : World) (hT : T ≤ 1000) (ha : Blk w bt 4 (bv a)) (hc : Blk w bf 4 (bv c)) (la : a.length = T) (lc : c.length = T) (he : bt = bf → a = c) :
    Calls Try.prog 62 #[.slice (some ⟨bt, 0, none⟩) T T, .slice (some ⟨bf, 0, none⟩) T T] w fun e w' => e = .returned (.bool (newB a c)) ∧ Blk w' bt 4 (bv (orB a c)) ∧ Kp (fun j => j = bt) w w' := by
  by_cases h : bt = bf
  · have e := he h
    subst h e
    exact add_eq bt T a w hT ha la
  · exact add_ne bt bf T a c w hT h ha hc la lc
end Go.Proofs.Ytgfchgnebpogjaa
