/- The document's Show: a tree as a text. -/
import Derived.Test.YtinejiodnnjpgaaDoorTrN
namespace Go.Proofs.YtinejiodnnjpgaaDoor
open Go.RowKit BigFrame
set_option linter.unusedVariables false
set_option linter.unusedSimpArgs false
set_option maxRecDepth 100000

theorem showL_take {ks : List Tr} {j : Nat} {k : Tr} (h : ks[j]? = some k) : showL (ks.take (j + 1)) = showL (ks.take j) ++ [32] ++ showT k := by
  rw [List.take_add_one, h]
  simp only [Option.toList_some]
  rw [showL_append, showL, showL]
  simp
theorem szL_take (ks : List Tr) (j : Nat) : szL (ks.take j) ≤ szL ks := by
  have := szL_append (ks.take j) (ks.drop j)
  rw [List.take_append_drop] at this
  omega
set_option maxHeartbeats 4000000 in
theorem rshow_node (B N : Nat) (hN : N ≤ 100000) (ih : ∀ (t : Tr), szT t ≤ N → IntT t → ∀ (v : Value) (w : World), B ≤ w.heap.size → TrB w B v t →
    Calls Tryd.prog 14 #[v] w fun e w' => e = .returned (bs (showT t)) ∧ Below w.heap.size w w')
    (p tok : Int) (ks : List Tr) (h : 1 + szL ks ≤ N + 1) (hi : IntT (.node p tok ks)) (v : Value) (w : World) (hB : B ≤ w.heap.size) (hT : TrB w B v (.node p tok ks)) :
    Calls Tryd.prog 14 #[v] w fun e w' => e = .returned (bs (showT (.node p tok ks))) ∧ Below w.heap.size w w' := by
  obtain ⟨b, A2, c2, rfl, hb, zp, zt, zk, hk1, hk2, hks⟩ := hT.node_inv
  cases hi
  rename_i hp1 hp2 ht1 ht2 hik
  have HIH := Lib.hid ih; have HSZ := Lib.hid h; have HKS := Lib.hid hks; have HIK := Lib.hid hik; have HT := Lib.hid hT
  have hkl : ks.length ≤ N := by have := szL_len ks; omega
  unfold maxLen at hk2
  clear ih h hks hik hT
  by_cases q1 : p < 0
  · as_aux_lemma =>
      have d1 : decide (p < 0) = true := decide_eq_true q1
      have HN := Lib.hid (number_any tok ht1 ht2 w)
      have HS : Hid (showT (.node p tok ks) = Lib.itoa tok) := Lib.hid (by rw [showT, if_pos q1])
      clear q1
      go_enter Tryd.func14, Tryd.ntmps14
      go_wp2_with fail
      refine HN.out.mono ?_
      rintro e w5 ⟨rfl, hb5⟩
      unfold bs
      go_wp2_with fail
      go_ret
      exact ⟨by rw [HS.out]; rfl, hb5⟩
  · as_aux_lemma =>
      have d1 : decide (p < 0) = false := decide_eq_false q1
      have HN := Lib.hid (number_any p hp1 hp2 w)
      have HS : Hid (showT (.node p tok ks) = [40] ++ Lib.itoa p ++ showL ks ++ [41]) := Lib.hid (by rw [showT, if_neg q1])
      have hil := itoa_len hp1 hp2
      generalize Lib.itoa p = ip at *
      have hc1 : ¬ 9223372036854775807 < 1 + ip.length := by omega
      clear q1
      go_enter Tryd.func14, Tryd.ntmps14
      go_wp2_with fail
      refine HN.out.mono ?_
      rintro e w5 ⟨rfl, hb5⟩
      unfold bs
      have HB5 := Lib.hid hb5
      clear hb5
      go_wp2_with fail
      have hsl := (showL_len ks HIK.out)
      have HSL := Lib.hid hsl
      have HTL := Lib.hid (fun j => (szL_take ks j))
      go_loopw [3, 4] (fun s i wr => ∃ (j : Nat) (L : List UInt8), j ≤ ks.length ∧ i = .int .i64 (j : Int) ∧ s = .string ⟨L.toArray⟩ ∧ Hid (L = [40] ++ ip ++ showL (ks.take j)) ∧ Hid (Below w5.heap.size w5 wr)) (fun _ i _ => ks.length - (intOf i).toNat)
      case atStart => exact ⟨0, [40] ++ ip, Nat.zero_le _, rfl, by rw [ba_app], Lib.hid (by rw [List.take_zero, showL, List.append_nil]), Below.refl _ _⟩
      case round =>
        as_aux_lemma =>
          obtain ⟨j, L, hj, rfl, rfl, HL, HB⟩ := hrel
          have hbw : Below w.heap.size w wr := HB5.out.trans (HB.out.mono HB5.out.size)
          have hLl : L.length ≤ 1 + ip.length + 25 * N := by
            have h1 := showL_len (ks.take j) (fun k hk => HIK.out k (List.mem_of_mem_take hk))
            have h2 := HTL.out j
            have h3 := HSZ.out
            rw [HL.out]
            simp only [List.length_append, List.length_cons, List.length_nil]
            omega
          by_cases hlt : j < ks.length
          · as_aux_lemma =>
              obtain ⟨k, hkk⟩ : ∃ k, ks[j]? = some k := ⟨ks[j], List.getElem?_eq_getElem hlt⟩
              obtain ⟨kb, ko, rfl, hkb, hkc⟩ := HKS.out (by omega)
              obtain ⟨u, zu, hu⟩ := hkc j k hkk
              have hmem := List.mem_of_getElem? hkk
              have hsz : szT k ≤ N := by
                have h1 := szL_mem hmem
                have h2 := HSZ.out
                omega
              have hkl2 := showT_len k (HIK.out k hmem)
              obtain ⟨pu, rfl⟩ := hu.ptr
              have zk2 := (hbw.cell (p := ⟨b, 2, none⟩) (Nat.lt_of_lt_of_le hb hB)).trans zk
              have zu2 := (hbw.cell (p := ⟨kb, ko + j, none⟩) (Nat.lt_of_lt_of_le hkb hB)).trans zu
              have HC := Lib.hid (HIH.out k hsz (HIK.out k hmem) (.pointer pu) wr (Nat.le_trans hB hbw.size) (TrB.below hu (hbw.mono hB)))
              have HST := Lib.hid (showL_take hkk)
              have HBW := Lib.hid hbw
              generalize showT k = K at *
              have hc2 : ¬ 9223372036854775807 < L.length + 1 := by omega
              have hc3 : ¬ 9223372036854775807 < L.length + 1 + K.length := by omega
              clear hkc hu zu zk hmem hsz hkl2 HIH HKS HSZ HIK HT hkk HSL HTL hbw hLl
              go_wp2_with fail
              refine HC.out.mono ?_
              rintro e w6 ⟨rfl, hb6⟩
              have HB6 : Hid (Below w5.heap.size w5 w6) := Lib.hid (HB.out.trans (hb6.mono HB.out.size))
              clear hb6
              unfold bs
              go_wp2
              go_roundw
              case rel => exact ⟨j + 1, L ++ [32] ++ K, by omega, by go_num, congrArg Value.string ((congrArg (· ++ ByteArray.mk K.toArray) (ba_app L [32])).trans (ba_app (L ++ [32]) K)), Lib.hid (by rw [HST.out, HL.out]; simp), HB6⟩
              case measure => simp [intOf]; omega
          · as_aux_lemma =>
              have hje : j = ks.length := by omega
              have HZ : Hid (L = [40] ++ ip ++ showL ks) := Lib.hid (by rw [HL.out, hje, List.take_length])
              have zk2 := (hbw.cell (p := ⟨b, 2, none⟩) (Nat.lt_of_lt_of_le hb hB)).trans zk
              have HBW := Lib.hid hbw
              have hc2 : ¬ 9223372036854775807 < L.length + 1 := by omega
              clear hje HL zk hbw hLl
              go_wp2
              go_ret
              exact ⟨by rw [HS.out, ← HZ.out]; exact congrArg (fun z => Ending.returned (.string z)) (ba_app L [41]), HBW.out⟩

theorem rshow_nil (w : World) : Calls Tryd.prog 14 #[.pointer none] w fun e w' => e = .returned (bs (showT .nil)) ∧ Below w.heap.size w w' := by
  have HS : Hid (showT .nil = [40, 41]) := Lib.hid (by rw [showT])
  go_enter Tryd.func14, Tryd.ntmps14
  go_wp2_with fail
  go_ret
  exact ⟨by rw [HS.out]; rfl, Below.refl _ _⟩
theorem rshow_any (B : Nat) : ∀ (N : Nat), N ≤ 100000 → ∀ (t : Tr), szT t ≤ N → IntT t → ∀ (v : Value) (w : World), B ≤ w.heap.size → TrB w B v t →
    Calls Tryd.prog 14 #[v] w fun e w' => e = .returned (bs (showT t)) ∧ Below w.heap.size w w' := by
  intro N
  induction N with
  | zero => intro _ t h; have := szT_pos t; omega
  | succ N ih =>
    intro hN t h hi v w hB hT
    cases t with
    | nil =>
      obtain rfl := hT.nil_inv
      exact rshow_nil w
    | node p tok ks =>
      rw [szT] at h
      exact rshow_node B N (by omega) (ih (by omega)) p tok ks (by omega) hi v w hB hT
end Go.Proofs.YtinejiodnnjpgaaDoor
