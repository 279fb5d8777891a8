/- The document's Number: the decimal text of an int. · The document's Show: a tree as a text. -/
import Derived.Test.YtinejiodnnjpgaaDoorQ7
import Derived.Laws.IdiomStrings
import Derived.Lib.ItoaMem
namespace Go.Proofs.YtinejiodnnjpgaaDoor
open Go.RowKit BigFrame
set_option linter.unusedVariables false
set_option linter.unusedSimpArgs false
set_option maxRecDepth 100000

def bs (l : List UInt8) : Value := .string ⟨l.toArray⟩
def dig (u : Nat) : UInt8 := UInt8.ofNat (48 + u % 10)
theorem dig_nat (u : Nat) : ((dig u).toNat : Int) = 48 + ((u % 10 : Nat) : Int) := by
  have h : u % 10 < 10 := Nat.mod_lt _ (by decide)
  unfold dig
  rw [UInt8.toNat_ofNat']
  omega
theorem conv1 (w : World) (x : Int) (u : Nat) (hx : x = ((dig u).toNat : Int)) :
    (convert 73 9 (.slice (some ⟨w.heap.size, 0, none⟩) 1 1)).run Tryd.prog (w.alloc (.cells #[.int .u8 x] 5)) = .ok (.string ⟨[dig u].toArray⟩) (w.alloc (.cells #[.int .u8 x] 5)) := by
  subst hx
  refine run_convert_bytes_back (P := Tryd.prog) _ 73 9 5 _ 1 [dig u] Tryd.underlying73 Tryd.underlying5 Tryd.underlying9 (fun j hj => ?_)
  have : j = 0 := by simp at hj; omega
  subst this
  simp [Addr.add]
theorem decD (u : Nat) (h : ¬ u < 10) : Lib.decDigits u = Lib.decDigits (u / 10) ++ [dig u] := by rw [Lib.decDigits, dif_neg h]; rfl
theorem dec1 (u : Nat) (h : u < 10) : Lib.decDigits u = [dig u] := by rw [Lib.decDigits, dif_pos h]; unfold dig; rw [Nat.mod_eq_of_lt h]

theorem ba_app (a b : List UInt8) : (ByteArray.mk a.toArray ++ ByteArray.mk b.toArray) = ByteArray.mk (a ++ b).toArray := by
  apply ByteArray.ext
  rw [ByteArray.data_append]
  simp
set_option maxHeartbeats 4000000 in
theorem number_pos : ∀ (N u : Nat), u ≤ N → u ≤ 9223372036854775807 → ∀ (w : World),
    Calls Tryd.prog 32 #[.int .i64 (u : Int)] w fun e w' => e = .returned (bs (Lib.decDigits u)) ∧ Below w.heap.size w w' := by
  intro N
  induction N with
  | zero =>
    intro u hu h1 w
    obtain rfl : u = 0 := by omega
    have HC := conv1 w 48 0 (by decide)
    go_enter Tryd.func32, Tryd.ntmps32
    go_wp2_with fail
    go_ret
    exact ⟨by rw [dec1 0 (by decide)]; rfl, (Below.refl _ _).alloc (Nat.le_refl _) _⟩
  | succ N ih =>
    intro u hu h1 w
    by_cases hd : u < 10
    · as_aux_lemma =>
        have d1 : decide (u < 10) = true := decide_eq_true hd
        have HC := conv1 w (48 + (u : Int)) u (by rw [dig_nat, Nat.mod_eq_of_lt hd])
        have HE := Lib.hid (dec1 u hd)
        go_enter Tryd.func32, Tryd.ntmps32
        go_wp2_with fail
        go_ret
        exact ⟨by rw [HE.out]; rfl, (Below.refl _ _).alloc (Nat.le_refl _) _⟩
    · as_aux_lemma =>
        have d1 : decide (u < 10) = false := decide_eq_false hd
        have hcall := ih (u / 10) (by omega) (by omega) w
        rw [show ((u / 10 : Nat) : Int) = (u : Int) / 10 from Int.natCast_ediv u 10] at hcall
        have HE := Lib.hid (decD u hd)
        have hx : 48 + (u : Int) % 10 = ((dig u).toNat : Int) := by rw [dig_nat, Int.natCast_emod]; rfl
        have HX := Lib.hid hx
        have hm : (u : Int) % 10 < 10 := Int.emod_lt_of_pos _ (by decide)
        have hm0 : 0 ≤ (u : Int) % 10 := Int.emod_nonneg _ (by decide)
        have HH := Lib.hid hcall
        clear ih hcall hx
        go_enter Tryd.func32, Tryd.ntmps32
        go_wp2_with fail
        refine HH.out.mono ?_
        rintro e w5 ⟨rfl, hb5⟩
        have HC := conv1 w5 (48 + (u : Int) % 10) u HX.out
        have HB5 := Lib.hid hb5
        clear hb5
        have hcl := decDigits_len 18 (u / 10) (by omega)
        generalize Lib.decDigits (u / 10) = hi at *
        unfold bs
        have hcat : ¬ 9223372036854775807 < hi.length + 1 := by omega
        go_wp2_with fail
        go_ret
        exact ⟨by rw [HE.out]; exact congrArg (fun z => Ending.returned (.string z)) (ba_app hi [dig u]), (HB5.out.alloc HB5.out.size _)⟩

set_option maxHeartbeats 4000000 in
theorem number_neg (u : Nat) (h0 : 1 ≤ u) (h1 : u ≤ 9223372036854775808) (w : World) :
    Calls Tryd.prog 32 #[.int .i64 (-(u : Int))] w fun e w' => e = .returned (bs (45 :: Lib.decDigits u)) ∧ Below w.heap.size w w' := by
  have hcall := number_pos (u / 10) (u / 10) (Nat.le_refl _) (by omega) w
  obtain ⟨n, hn⟩ : ∃ n : Int, n = -(u : Int) := ⟨_, rfl⟩
  obtain ⟨q, hq⟩ : ∃ q : Nat, q = u / 10 := ⟨_, rfl⟩
  have e1 : n.tdiv 10 = -(q : Int) := by rw [hn, Int.neg_tdiv, hq]; rfl
  have e2 : n.tmod 10 = -((u % 10 : Nat) : Int) := by rw [hn, Int.neg_tmod]; rfl
  have hx : 48 + ((u % 10 : Nat) : Int) = ((dig u).toNat : Int) := by rw [dig_nat]
  have hm : u % 10 < 10 := Nat.mod_lt _ (by decide)
  have hd0 : decide (n < 0) = true := decide_eq_true (by omega)
  have hb1 : -9223372036854775808 ≤ n := by omega
  have hb2 : n < 0 := by omega
  have ew1 : wrap64 (-(q : Int)) = -(q : Int) := by unfold wrap64; omega
  have ew2 : wrap64 (q : Int) = (q : Int) := by unfold wrap64; omega
  have hcl := decDigits_len 18 q (by omega)
  rw [← hn]
  have HE : Hid (45 :: Lib.decDigits u = if u < 10 then [45, dig u] else [45] ++ Lib.decDigits (u / 10) ++ [dig u]) := Lib.hid (by by_cases q : u < 10; rw [if_pos q, dec1 u q]; rw [if_neg q, decD u q]; rfl)
  rw [← hq] at hcall HE
  have HH := Lib.hid hcall; have HX := Lib.hid hx; have HN := Lib.hid hn; have HQ := Lib.hid hq
  clear hcall hx hn hq
  generalize Lib.decDigits q = hi at *
  generalize 45 :: Lib.decDigits u = lo at *
  go_enter Tryd.func32, Tryd.ntmps32
  go_wp2_with fail
  refine HH.out.mono ?_
  rintro e w5 ⟨rfl, hb5⟩
  have HC := conv1 w5 (48 + (u : Int) % 10) u (by have := HX.out; rw [Int.natCast_emod] at this; exact this)
  have HB5 := Lib.hid hb5
  clear hb5
  unfold bs
  by_cases h10 : u < 10
  · as_aux_lemma =>
      have d2 : decide (-10 < n) = true := decide_eq_true (by rw [HN.out]; omega)
      have HE2 : Hid (lo = [45, dig u]) := Lib.hid (by rw [HE.out, if_pos h10])
      clear HE h10
      go_wp2_with fail
      go_ret
      exact ⟨by rw [HE2.out]; exact congrArg (fun z => Ending.returned (.string z)) ((congrArg (· ++ ByteArray.mk #[dig u]) (ba_app [45] [])).trans (ba_app [45] [dig u])), (HB5.out.alloc HB5.out.size _)⟩
  · as_aux_lemma =>
      have d2 : decide (-10 < n) = false := decide_eq_false (by rw [HN.out]; omega)
      have HE2 : Hid (lo = [45] ++ hi ++ [dig u]) := Lib.hid (by rw [HE.out, if_neg h10])
      have hcat : ¬ 9223372036854775807 < 1 + hi.length := by omega
      have hcat2 : ¬ 9223372036854775807 < 1 + hi.length + 1 := by omega
      clear HE h10
      go_wp2_with fail
      go_ret
      exact ⟨by rw [HE2.out]; exact congrArg (fun z => Ending.returned (.string z)) ((congrArg (· ++ ByteArray.mk #[dig u]) (ba_app [45] hi)).trans (ba_app ([45] ++ hi) [dig u])), (HB5.out.alloc HB5.out.size _)⟩

theorem number_any (n : Int) (h0 : -9223372036854775808 ≤ n) (h1 : n ≤ 9223372036854775807) (w : World) :
    Calls Tryd.prog 32 #[.int .i64 n] w fun e w' => e = .returned (bs (Lib.itoa n)) ∧ Below w.heap.size w w' := by
  by_cases h : 0 ≤ n
  · obtain ⟨u, rfl⟩ := Int.eq_ofNat_of_zero_le h
    rw [Lib.itoa_nonneg]
    exact number_pos u u (Nat.le_refl _) (by omega) w
  · obtain ⟨u, hu⟩ := Int.eq_ofNat_of_zero_le (show 0 ≤ -n by omega)
    obtain rfl : n = -(u : Int) := by omega
    rw [Lib.itoa_neg u (by omega)]
    exact number_neg u (by omega) (by omega) w
end Go.Proofs.YtinejiodnnjpgaaDoor
namespace Go.Proofs.YtinejiodnnjpgaaDoor
open Go.RowKit BigFrame
set_option linter.unusedVariables false
set_option linter.unusedSimpArgs false
set_option maxRecDepth 100000

theorem showL_take {ks : List Tr} {j : Nat} {k : Tr} (h : ks[j]? = some k) : showL (ks.take (j + 1)) = showL (ks.take j) ++ [32] ++ showT k := by
  rw [List.take_add_one, h]
  simp only [Option.toList_some]
  rw [showL_append, showL, showL]
  simp
theorem szL_take (ks : List Tr) (j : Nat) : szL (ks.take j) ≤ szL ks := by
  have := szL_append (ks.take j) (ks.drop j)
  rw [List.take_append_drop] at this
  omega
set_option maxHeartbeats 4000000 in
theorem rshow_node (B N : Nat) (hN : N ≤ 100000) (ih : ∀ (t : Tr), szT t ≤ N → IntT t → ∀ (v : Value) (w : World), B ≤ w.heap.size → TrB w B v t →
    Calls Tryd.prog 14 #[v] w fun e w' => e = .returned (bs (showT t)) ∧ Below w.heap.size w w')
    (p tok : Int) (ks : List Tr) (h : 1 + szL ks ≤ N + 1) (hi : IntT (.node p tok ks)) (v : Value) (w : World) (hB : B ≤ w.heap.size) (hT : TrB w B v (.node p tok ks)) :
    Calls Tryd.prog 14 #[v] w fun e w' => e = .returned (bs (showT (.node p tok ks))) ∧ Below w.heap.size w w' := by
  obtain ⟨b, A2, c2, rfl, hb, zp, zt, zk, hk1, hk2, hks⟩ := hT.node_inv
  cases hi
  rename_i hp1 hp2 ht1 ht2 hik
  have HIH := Lib.hid ih; have HSZ := Lib.hid h; have HKS := Lib.hid hks; have HIK := Lib.hid hik; have HT := Lib.hid hT
  have hkl : ks.length ≤ N := by have := szL_len ks; omega
  unfold maxLen at hk2
  clear ih h hks hik hT
  by_cases q1 : p < 0
  · as_aux_lemma =>
      have d1 : decide (p < 0) = true := decide_eq_true q1
      have HN := Lib.hid (number_any tok ht1 ht2 w)
      have HS : Hid (showT (.node p tok ks) = Lib.itoa tok) := Lib.hid (by rw [showT, if_pos q1])
      clear q1
      go_enter Tryd.func14, Tryd.ntmps14
      go_wp2_with fail
      refine HN.out.mono ?_
      rintro e w5 ⟨rfl, hb5⟩
      unfold bs
      go_wp2_with fail
      go_ret
      exact ⟨by rw [HS.out]; rfl, hb5⟩
  · as_aux_lemma =>
      have d1 : decide (p < 0) = false := decide_eq_false q1
      have HN := Lib.hid (number_any p hp1 hp2 w)
      have HS : Hid (showT (.node p tok ks) = [40] ++ Lib.itoa p ++ showL ks ++ [41]) := Lib.hid (by rw [showT, if_neg q1])
      have hil := itoa_len hp1 hp2
      generalize Lib.itoa p = ip at *
      have hc1 : ¬ 9223372036854775807 < 1 + ip.length := by omega
      clear q1
      go_enter Tryd.func14, Tryd.ntmps14
      go_wp2_with fail
      refine HN.out.mono ?_
      rintro e w5 ⟨rfl, hb5⟩
      unfold bs
      have HB5 := Lib.hid hb5
      clear hb5
      go_wp2_with fail
      have hsl := (showL_len ks HIK.out)
      have HSL := Lib.hid hsl
      have HTL := Lib.hid (fun j => (szL_take ks j))
      go_loopw [3, 4] (fun s i wr => ∃ (j : Nat) (L : List UInt8), j ≤ ks.length ∧ i = .int .i64 (j : Int) ∧ s = .string ⟨L.toArray⟩ ∧ Hid (L = [40] ++ ip ++ showL (ks.take j)) ∧ Hid (Below w5.heap.size w5 wr)) (fun _ i _ => ks.length - (intOf i).toNat)
      case atStart => exact ⟨0, [40] ++ ip, Nat.zero_le _, rfl, by rw [ba_app], Lib.hid (by rw [List.take_zero, showL, List.append_nil]), Below.refl _ _⟩
      case round =>
        as_aux_lemma =>
          obtain ⟨j, L, hj, rfl, rfl, HL, HB⟩ := hrel
          have hbw : Below w.heap.size w wr := HB5.out.trans (HB.out.mono HB5.out.size)
          have hLl : L.length ≤ 1 + ip.length + 25 * N := by
            have h1 := showL_len (ks.take j) (fun k hk => HIK.out k (List.mem_of_mem_take hk))
            have h2 := HTL.out j
            have h3 := HSZ.out
            rw [HL.out]
            simp only [List.length_append, List.length_cons, List.length_nil]
            omega
          by_cases hlt : j < ks.length
          · as_aux_lemma =>
              obtain ⟨k, hkk⟩ : ∃ k, ks[j]? = some k := ⟨ks[j], List.getElem?_eq_getElem hlt⟩
              obtain ⟨kb, ko, rfl, hkb, hkc⟩ := HKS.out (by omega)
              obtain ⟨u, zu, hu⟩ := hkc j k hkk
              have hmem := List.mem_of_getElem? hkk
              have hsz : szT k ≤ N := by
                have h1 := szL_mem hmem
                have h2 := HSZ.out
                omega
              have hkl2 := showT_len k (HIK.out k hmem)
              obtain ⟨pu, rfl⟩ := hu.ptr
              have zk2 := (hbw.cell (p := ⟨b, 2, none⟩) (Nat.lt_of_lt_of_le hb hB)).trans zk
              have zu2 := (hbw.cell (p := ⟨kb, ko + j, none⟩) (Nat.lt_of_lt_of_le hkb hB)).trans zu
              have HC := Lib.hid (HIH.out k hsz (HIK.out k hmem) (.pointer pu) wr (Nat.le_trans hB hbw.size) (TrB.below hu (hbw.mono hB)))
              have HST := Lib.hid (showL_take hkk)
              have HBW := Lib.hid hbw
              generalize showT k = K at *
              have hc2 : ¬ 9223372036854775807 < L.length + 1 := by omega
              have hc3 : ¬ 9223372036854775807 < L.length + 1 + K.length := by omega
              clear hkc hu zu zk hmem hsz hkl2 HIH HKS HSZ HIK HT hkk HSL HTL hbw hLl
              go_wp2_with fail
              refine HC.out.mono ?_
              rintro e w6 ⟨rfl, hb6⟩
              have HB6 : Hid (Below w5.heap.size w5 w6) := Lib.hid (HB.out.trans (hb6.mono HB.out.size))
              clear hb6
              unfold bs
              go_wp2
              go_roundw
              case rel => exact ⟨j + 1, L ++ [32] ++ K, by omega, by go_num, congrArg Value.string ((congrArg (· ++ ByteArray.mk K.toArray) (ba_app L [32])).trans (ba_app (L ++ [32]) K)), Lib.hid (by rw [HST.out, HL.out]; simp), HB6⟩
              case measure => simp [intOf]; omega
          · as_aux_lemma =>
              have hje : j = ks.length := by omega
              have HZ : Hid (L = [40] ++ ip ++ showL ks) := Lib.hid (by rw [HL.out, hje, List.take_length])
              have zk2 := (hbw.cell (p := ⟨b, 2, none⟩) (Nat.lt_of_lt_of_le hb hB)).trans zk
              have HBW := Lib.hid hbw
              have hc2 : ¬ 9223372036854775807 < L.length + 1 := by omega
              clear hje HL zk hbw hLl
              go_wp2
              go_ret
              exact ⟨by rw [HS.out, ← HZ.out]; exact congrArg (fun z => Ending.returned (.string z)) (ba_app L [41]), HBW.out⟩

theorem rshow_nil (w : World) : Calls Tryd.prog 14 #[.pointer none] w fun e w' => e = .returned (bs (showT .nil)) ∧ Below w.heap.size w w' := by
  have HS : Hid (showT .nil = [40, 41]) := Lib.hid (by rw [showT])
  go_enter Tryd.func14, Tryd.ntmps14
  go_wp2_with fail
  go_ret
  exact ⟨by rw [HS.out]; rfl, Below.refl _ _⟩
theorem rshow_any (B : Nat) : ∀ (N : Nat), N ≤ 100000 → ∀ (t : Tr), szT t ≤ N → IntT t → ∀ (v : Value) (w : World), B ≤ w.heap.size → TrB w B v t →
    Calls Tryd.prog 14 #[v] w fun e w' => e = .returned (bs (showT t)) ∧ Below w.heap.size w w' := by
  intro N
  induction N with
  | zero => intro _ t h; have := szT_pos t; omega
  | succ N ih =>
    intro hN t h hi v w hB hT
    cases t with
    | nil =>
      obtain rfl := hT.nil_inv
      exact rshow_nil w
    | node p tok ks =>
      rw [szT] at h
      exact rshow_node B N (by omega) (ih (by omega)) p tok ks (by omega) hi v w hB hT
end Go.Proofs.YtinejiodnnjpgaaDoor
