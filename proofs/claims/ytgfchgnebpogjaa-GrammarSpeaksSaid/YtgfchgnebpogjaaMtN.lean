/- newSets; lists of the numbers in each row. -/
import Derived.Test.YtgfchgnebpogjaaMt
import Derived.Test.YtgfchgnebpogjaaSnS
namespace Go.Proofs.Ytgfchgnebpogjaa
open Go.RowKit BigFrame
set_option linter.unusedVariables false
set_option linter.unusedSimpArgs false
set_option maxRecDepth 100000

theorem nthN_snoc {l : List Nat} {b k : Nat} : nthN (l ++ [b]) k = if k < l.length then nthN l k else if k = l.length then b else 0 := by
  unfold nthN
  rw [List.getD_eq_getElem?_getD]
  by_cases h : k < l.length
  · rw [if_pos h, List.getElem?_append_left h]; simp [List.getD]
  · rw [if_neg h, List.getElem?_append_right (by omega)]
    by_cases e : k = l.length
    · rw [if_pos e, e]; simp
    · rw [if_neg e, List.getElem?_eq_none (by simp; omega)]; rfl
/-- n rows of T times false. -/
def m0 (N T : Nat) : List (List Bool) := List.replicate N (List.replicate T false)
theorem rowB_m0 {N T k : Nat} (hk : k < N) : rowB (m0 N T) k = List.replicate T false := by
  unfold rowB m0
  rw [List.getD_eq_getElem?_getD, List.getElem?_replicate, if_pos hk]; rfl

set_option maxHeartbeats 1000000 in
theorem newSets_any (N T : Nat) (w : World) (hN : N ≤ 300) (hT : T ≤ 301) :
    Calls Try.prog 58 #[.int .i64 (N : Int), .int .i64 (T : Int)] w fun e w' => ∃ D ρ, e = .returned (.slice (some ⟨D, 0, none⟩) N N) ∧ w.heap.size ≤ D ∧ (∀ k, k < N → w.heap.size ≤ nthN ρ k) ∧ MtSt w' D N T ρ (m0 N T) ∧ Below w.heap.size w w' := by
  have hmk : ∀ w : World, (Instr.makeSlice 61 (.int .i64 (N : Int)) (.int .i64 (N : Int))).run Try.prog w = .ok (.slice (some ⟨w.heap.size, 0, none⟩) N N) (w.alloc (.cells (zs (.slice none 0 0) N) 38)) := fun w =>
    mk_row elSet rfl .i64 .i64 N _ (by omega) (by omega) (by omega) w
  have hmk2 : ∀ w : World, (Instr.makeSlice 38 (.int .i64 (T : Int)) (.int .i64 (T : Int))).run Try.prog w = .ok (.slice (some ⟨w.heap.size, 0, none⟩) T T) (w.alloc (.cells (zs (.bool false) T) 4)) := fun w =>
    mk_row elBg rfl .i64 .i64 T _ (by omega) (by omega) (by omega) w
  go_enter Try.func58, Try.ntmps58
  go_wp2_with fail
  obtain ⟨D, hD⟩ : ∃ D, D = w.heap.size := ⟨_, rfl⟩
  have hblk : Blk (w.alloc (.cells (zs (.slice none 0 0) N) 38)) w.heap.size 38 (List.replicate N (.slice none 0 0)) := Blk.made _ _ _ _
  have hb : Below w.heap.size w (w.alloc (.cells (zs (.slice none 0 0) N) 38)) := (Below.refl _ _).alloc (Nat.le_refl _) _
  rw [← hD] at hblk hb ⊢
  generalize w.alloc (.cells (zs (.slice none 0 0) N) 38) = W1 at *
  have hDs := hblk.lt
  have HBL := Lib.hid hblk; have HB := Lib.hid hb
  have hDw : w.heap.size ≤ D := by omega
  clear hblk hb hD
  go_loopw [11] (fun i wr => ∃ k : Nat, k ≤ N ∧ i = .int .i64 k ∧ Below D W1 wr ∧ ∃ (ρ : List Nat) (vs : List Value), Hid (ρ.length = k ∧ vs.length = N ∧ Blk wr D 38 vs ∧ (∀ i, i < k → D < nthN ρ i ∧ vs[i]? = some (.slice (some ⟨nthN ρ i, 0, none⟩) T T) ∧ Blk wr (nthN ρ i) 4 (bv (List.replicate T false))) ∧ (∀ i j, i < k → j < k → nthN ρ i = nthN ρ j → i = j))) (fun i _ => N - (intOf i).toNat)
  case atStart => exact ⟨0, Nat.zero_le _, rfl, Below.refl _ _, [], _, rfl, List.length_replicate, HBL.out, fun i h => absurd h (by omega), fun i j h => absurd h (by omega)⟩
  case round =>
    obtain ⟨k, hk, rfl, hbr, ρ, vs, HR⟩ := hrel
    by_cases hlt : k < N
    · obtain ⟨r1, r2, r3, r4, r5⟩ := HR.out
      have hDr := r3.lt
      have zd := (r3.alloc (.cells (zs (.bool false) T) 4)).cell (i := k) (List.getElem?_eq_getElem (by omega))
      have zf := (r3.alloc (.cells (zs (.bool false) T) 4)).frozen k
      generalize vs[k]'(by omega) = vk at zd
      clear r1 r2 r3 r4 r5
      go_wp2_with fail
      go_roundw
      case rel =>
        obtain ⟨r1, r2, r3, r4, r5⟩ := HR.out
        have hne : ∀ i, i < k → nthN ρ i < wr.heap.size := fun i hi => (r4 i hi).2.2.lt
        refine ⟨k + 1, by omega, by go_num, (hbr.setCell (by simp) _).alloc (by rw [setCell_size]; omega) _, ρ ++ [wr.heap.size], vs.set k (.slice (some ⟨wr.heap.size, 0, none⟩) T T), by rw [List.length_append, r1]; rfl, by rw [List.length_set]; exact r2, (r3.set_ k _).alloc _, fun i hi => ?_, fun i j hi hj => ?_⟩
        · rw [nthN_snoc, r1]
          by_cases e : i < k
          · rw [if_pos e]
            obtain ⟨q1, q2, q3⟩ := r4 i e
            exact ⟨q1, by rw [List.getElem?_set_ne (by omega)]; exact q2, (q3.far (p := ⟨D, k, none⟩) (by simp; omega) _).alloc _⟩
          · have e2 : i = k := by omega
            subst e2
            rw [if_neg (by omega), if_pos rfl]
            refine ⟨hDr, by rw [List.getElem?_set_self (by omega)], ?_⟩
            have := Blk.made (wr.setCell ⟨D, i, none⟩ (.slice (some ⟨wr.heap.size, 0, none⟩) T T)) 4 (.bool false) T
            rw [setCell_size] at this
            rw [← bv_rep]; exact this
        · rw [nthN_snoc, nthN_snoc, r1]
          intro h
          by_cases e1 : i < k
          · by_cases e2 : j < k
            · rw [if_pos e1, if_pos e2] at h; exact r5 i j e1 e2 h
            · rw [if_pos e1, if_neg e2, if_pos (by omega)] at h
              have := hne i e1; omega
          · by_cases e2 : j < k
            · rw [if_neg e1, if_pos (by omega), if_pos e2] at h
              have := hne j e2; omega
            · omega
      case measure => simp [intOf]; omega
    · have hkN : k = N := by omega
      subst hkN
      go_wp2
      go_ret
      obtain ⟨r1, r2, r3, r4, r5⟩ := HR.out
      exact ⟨D, ρ, rfl, hDw, fun i hi => by have := (r4 i hi).1; omega, ⟨r3.lt, fun i hi => r3.cell (r4 i hi).2.1, r1, by simp [m0], r5, fun i hi => by have := (r4 i hi).1; omega, fun i hi => by rw [rowB_m0 hi]; exact ⟨(r4 i hi).2.2, List.length_replicate⟩⟩, (HB.out.trans hbr).mono hDw⟩

/-! ### lists -/
/-- The numbers of the first k places that hold. -/
def numsK (r : List Bool) (k : Nat) : List Int := ((List.range k).filter (fun i => bth r i)).map (fun i : Nat => (i : Int))
def nums (r : List Bool) : List Int := numsK r r.length
theorem numsK_snoc {r : List Bool} {k : Nat} : numsK r (k + 1) = if bth r k = true then numsK r k ++ [(k : Int)] else numsK r k := by
  unfold numsK
  rw [List.range_succ, List.filter_append, List.map_append]
  split
  · rename_i h; simp [h]
  · rename_i h; simp [h]
theorem numsK_len (r : List Bool) (k : Nat) : (numsK r k).length ≤ k := by
  unfold numsK
  rw [List.length_map]
  exact Nat.le_trans (List.length_filter_le _ _) (by rw [List.length_range]; exact Nat.le_refl _)

/-- Lists of integers: their slices in the block D. -/
structure LsSt (w : World) (D N : Nat) (L : Nat → List Int) : Prop where
  b : ∃ vs : List Value, vs.length = N ∧ Blk w D 22 vs ∧ ∀ k, k < N → ∃ A c, vs[k]? = some (.slice A (L k).length c) ∧ (L k).length ≤ c ∧ c ≤ maxLen ∧ RdF w (fun j => j ≠ D) A (L k)

theorem elLm : ElTy Try.prog 40 22 1 24 (.slice none 0 0) := ⟨Try.underlying40, by kernel_rfl, rfl, by decide⟩

set_option maxHeartbeats 2000000 in
theorem lists_any (E N T cE : Nat) (ρ : List Nat) (M : List (List Bool)) (w : World) (hN : N ≤ 300) (hT : T ≤ 301) (hE : E < w.heap.size) (hM : MtSt w E N T ρ M) :
    Calls Try.prog 51 #[.slice (some ⟨E, 0, none⟩) N cE] w fun e w' => ∃ D, e = .returned (.slice (some ⟨D, 0, none⟩) N N) ∧ w.heap.size ≤ D ∧ LsSt w' D N (fun k => nums (rowB M k)) ∧ Below w.heap.size w w' := by
  have hmk : ∀ w : World, (Instr.makeSlice 40 (.int .i64 (N : Int)) (.int .i64 (N : Int))).run Try.prog w = .ok (.slice (some ⟨w.heap.size, 0, none⟩) N N) (w.alloc (.cells (zs (.slice none 0 0) N) 22)) := fun w =>
    mk_row elLm rfl .i64 .i64 N _ (by omega) (by omega) (by omega) w
  have HM := Lib.hid hM
  clear hM
  go_enter Try.func51, Try.ntmps51
  go_wp2_with fail
  obtain ⟨D, hD⟩ : ∃ D, D = w.heap.size := ⟨_, rfl⟩
  have hblk : Blk (w.alloc (.cells (zs (.slice none 0 0) N) 22)) w.heap.size 22 (List.replicate N (.slice none 0 0)) := Blk.made _ _ _ _
  have hb : Below w.heap.size w (w.alloc (.cells (zs (.slice none 0 0) N) 22)) := (Below.refl _ _).alloc (Nat.le_refl _) _
  have HM1 := Lib.hid (HM.out.below hb)
  rw [← hD] at hblk hb ⊢
  generalize w.alloc (.cells (zs (.slice none 0 0) N) 22) = W1 at *
  have hDs := hblk.lt
  have HBL := Lib.hid hblk; have HB := Lib.hid hb
  have hDw : w.heap.size ≤ D := by omega
  have hED : E < D := by omega
  have hrD : ∀ k, k < N → nthN ρ k < D := fun k hk => by have := (HM.out.rows k hk).1.lt; omega
  have HRD := Lib.hid hrD
  have hmt : ∀ wr, Kp (fun j => j = D) W1 wr → MtSt wr E N T ρ M := fun wr h => HM1.out.keep h (fun e => by omega) (fun k hk e => by have := hrD k hk; omega)
  have HMT := Lib.hid hmt
  clear hblk hb hD hrD hmt hmk
  go_loopw [13] (fun i wr => ∃ k : Nat, k ≤ N ∧ i = .int .i64 k ∧ Kp (fun j => j = D) W1 wr ∧ ∃ vs : List Value, Hid (vs.length = N ∧ Blk wr D 22 vs ∧ (∀ j, j < k → ∃ A c, vs[j]? = some (.slice A (nums (rowB M j)).length c) ∧ (nums (rowB M j)).length ≤ c ∧ c ≤ maxLen ∧ RdF wr (fun j => j ≠ D) A (nums (rowB M j))) ∧ ∀ j, k ≤ j → j < N → vs[j]? = some (.slice none 0 0))) (fun i _ => N - (intOf i).toNat)
  case atStart => exact ⟨0, Nat.zero_le _, rfl, Kp.refl _ _, _, List.length_replicate, HBL.out, fun j h => absurd h (by omega), fun j _ hj => by rw [List.getElem?_replicate, if_pos hj]⟩
  case round =>
    as_aux_lemma =>
      obtain ⟨k, hk, rfl, hkr, vs, HV⟩ := hrel
      obtain ⟨wo, rfl⟩ : ∃ wo : World, wo = wr := ⟨_, rfl⟩
      have hDo : D < wo.heap.size := HV.out.2.1.lt
      by_cases hlt : k < N
      · as_aux_lemma =>
          have zE := (HMT.out _ hkr).cell hlt
          have hrow := (HMT.out _ hkr).rows k hlt
          have hrk := HRD.out k hlt
          have hnil := HV.out.2.2.2 k (Nat.le_refl _) hlt
          have HRW := Lib.hid hrow; have HNIL := Lib.hid hnil
          clear hrow hnil
          go_wp2_with fail
          go_loopw [20] (fun i wr => ∃ j : Nat, j ≤ T ∧ i = .int .i64 j ∧ Kp (fun j => j = D) wo wr ∧ ∃ v : Value, Hid (Blk wr D 22 (vs.set k v) ∧ wr.ownsRow wo.heap.size 3 1 v (numsK (rowB M k) j).length (iv (numsK (rowB M k) j)))) (fun i _ => T - (intOf i).toNat)
          case atStart => exact ⟨0, Nat.zero_le _, rfl, Kp.refl _ _, .slice none 0 0, by
            have e : vs.set k (.slice none 0 0) = vs := by
              apply List.ext_getElem?
              intro j
              by_cases h : k = j
              · subst h; rw [List.getElem?_set_self (by rw [HV.out.1]; exact hlt), HNIL.out]
              · rw [List.getElem?_set_ne h]
            rw [e]; exact HV.out.2.1, World.ownsRow_nil _ _ _ _⟩
          case round =>
            as_aux_lemma =>
              obtain ⟨j, hj, rfl, hkj, v, HVV⟩ := hrel
              have hsz := hkj.size
              by_cases hjt : j < T
              · as_aux_lemma =>
                  have zr := (hkj.cell (p := ⟨nthN ρ k, j, none⟩) HRW.out.1.lt (by simp; omega)).trans (HRW.out.1.bcell (k := j) (by rw [HRW.out.2]; exact hjt))
                  have zv := HVV.out.1.cell (i := k) (by rw [List.getElem?_set_self (by rw [HV.out.1]; exact hlt)])
                  have hsn := numsK_snoc (r := rowB M k) (k := j)
                  cases hbj : bth (rowB M k) j
                  · rw [hbj] at zr hsn
                    have HSN : Hid (numsK (rowB M k) (j + 1) = numsK (rowB M k) j) := Lib.hid (by rw [hsn]; simp)
                    clear hsn hbj
                    go_wp2
                    go_roundw
                    case rel => exact ⟨j + 1, by omega, by go_num, hkj, v, by show _ ∧ _; rw [HSN.out]; exact HVV.out⟩
                    case measure => simp [intOf]; omega
                  · rw [hbj] at zr hsn
                    have HSN : Hid (numsK (rowB M k) (j + 1) = numsK (rowB M k) j ++ [(j : Int)]) := Lib.hid (by rw [hsn]; simp)
                    clear hsn hbj
                    have hlen := numsK_len (rowB M k) j
                    have hown := HVV.out.2
                    obtain ⟨na, hna⟩ : ∃ na, na = (numsK (rowB M k) j).length := ⟨_, rfl⟩
                    rw [← hna] at hown hlen
                    have HO := Lib.hid hown; have HNA := Lib.hid hna
                    clear hown hna
                    have zf0 : ∀ wq : World, Blk wq D 22 (vs.set k v) → wq.frozen? ⟨D, k, none⟩ = false := fun wq h => h.frozen k
                    have ZF0 := Lib.hid zf0; clear zf0
                    have hnD : v.ownBlock ≠ some D := fun e => by have := (HO.out.lt D e).1; omega
                    have HND := Lib.hid hnD; clear hnD
                    go_wp2_with (at_builtin; refine wpList_app elIs rfl (.tmp 31) (.tmp 33) rfl wo.heap.size _ na 1 _ [.int .i64 (j : Int)] rfl HO.out rfl rfl (by simp [Value.oneCell']) (by omega) (by omega) hsz ?_; intro v1 w1 hown1 hg1 hat1; have HB1 : Hid (Blk w1 D 22 (vs.set k v)) := Lib.hid (HVV.out.1.grown hg1 (fun e => HND.out e.symm)); have zv1 := HB1.out.cell (i := k) (by rw [List.getElem?_set_self (by rw [HV.out.1]; exact hlt)]); have zf1 := ZF0.out w1 HB1.out; have HG1 := Lib.hid hg1; have HO1 : Hid (w1.ownsRow wo.heap.size 3 1 v1 (na + 1) (iv (numsK (rowB M k) j ++ [(j : Int)]))) := Lib.hid (by rw [show iv (numsK (rowB M k) j ++ [(j : Int)]) = iv (numsK (rowB M k) j) ++ iv [(j : Int)] from List.map_append]; exact hown1); obtain ⟨_, A1, c1, e1, q1, q2, _⟩ := own_RdF HO1.out; subst e1; clear hown1 hg1 hat1; unfold maxLen at q2)
                    go_roundw
                    case rel =>
                      have hk1 : Kp (fun j => j = D) wo w1 := hkj.grown HG1.out (fun b hb => .inl (HO.out.lt b hb).1)
                      refine ⟨j + 1, by omega, by go_num, hk1.set_ (.inr rfl) _, .slice A1 (na + 1) c1, ?_, ?_⟩
                      · have := HB1.out.set_ k (.slice A1 (na + 1) c1)
                        rw [List.set_set] at this; exact this
                      · rw [HSN.out]
                        have hne1 : (Value.slice A1 (na + 1) c1).ownBlock ≠ some D := fun e => by have := (HO1.out.lt D e).1; omega
                        have := HO1.out.kept (w' := w1.setCell ⟨D, k, none⟩ (.slice A1 (na + 1) c1)) (row := some D) ⟨rfl, rfl, rfl, by rw [setCell_size]; exact Nat.le_refl _, fun b hb hne => Below.heap_setCell w1 ⟨D, k, none⟩ (.slice A1 (na + 1) c1) b (fun e => hne (by rw [e]))⟩ (.inr hne1)
                        rw [List.length_append, ← HNA.out]
                        exact this
                    case measure => simp [intOf]; omega
              · as_aux_lemma =>
                  have hjT : j = T := by omega
                  have hnm : numsK (rowB M k) j = nums (rowB M k) := by unfold nums; rw [HRW.out.2, hjT]
                  have hvv := HVV.out
                  rw [hnm] at hvv
                  obtain ⟨hl, A, c, e1, e2, e3, e4⟩ := own_RdF hvv.2
                  have HV2 := Lib.hid hvv.1; have E1 := Lib.hid e1; have E2 := Lib.hid e2; have E3 := Lib.hid e3; have E4 := Lib.hid e4
                  clear hjT hnm hvv hl e1 e2 e3 e4
                  go_wp2
                  go_roundw
                  case rel =>
                    refine ⟨k + 1, by omega, by go_num, hkr.trans hkj, vs.set k v, by rw [List.length_set]; exact HV.out.1, HV2.out, fun i hi => ?_, fun i hi hiN => ?_⟩
                    · by_cases e : i = k
                      · subst e
                        exact ⟨A, c, by rw [List.getElem?_set_self (by rw [HV.out.1]; exact hlt), E1.out], E2.out, E3.out, E4.out.mono (fun b hb => by omega)⟩
                      · obtain ⟨A', c', q1, q2, q3, q4⟩ := HV.out.2.2.1 i (by omega)
                        exact ⟨A', c', by rw [List.getElem?_set_ne (by omega)]; exact q1, q2, q3, q4.keep hkj (fun b hb e => hb e)⟩
                    · rw [List.getElem?_set_ne (by omega)]; exact HV.out.2.2.2 i (by omega) hiN
                  case measure => simp [intOf]; omega
      · as_aux_lemma =>
          have hkN : k = N := by omega
          subst hkN
          go_wp2
          go_ret
          exact ⟨D, rfl, hDw, ⟨vs, HV.out.1, HV.out.2.1, HV.out.2.2.1⟩, HB.out.trans (hkr.bel (B := D) (by omega) (fun j hj e => by omega)) |>.mono hDw⟩
end Go.Proofs.Ytgfchgnebpogjaa
