/- The document's decimals: plus; a decimal as a text. · The document's Decimal: digits as a text. · The document's Count. -/
import Derived.Test.YtkcpfpofimkkiaaGreatDoorQ32
import Derived.Test.YtkcpfpofimkkiaaGreatDoorQ30
import Derived.Laws.IdiomStrings
import Derived.Lib.ItoaMem
import Derived.Test.YtkcpfpofimkkiaaGreatDoorQ14
import Derived.Test.YtkcpfpofimkkiaaGreatDoorQ21
namespace Go.Proofs.YtkcpfpofimkkiaaGreatDoor
open Go.RowKit BigFrame
set_option linter.unusedVariables false
set_option linter.unusedSimpArgs false
set_option maxRecDepth 100000

theorem headD_drop (l : List Nat) (k : Nat) : (l.drop k).headD 0 = l.getD k 0 := by
  by_cases h : k < l.length
  · rw [List.drop_eq_getElem_cons h, List.getD_eq_getElem?_getD, List.getElem?_eq_getElem h]; rfl
  · rw [List.drop_of_length_le (by omega), List.getD_eq_getElem?_getD, List.getElem?_eq_none (by omega)]; rfl
theorem pls_step {a b : List Nat} {k c : Nat} (h : k < a.length ∨ k < b.length ∨ 0 < c) : pls (a.drop k) (b.drop k) c = (c + a.getD k 0 + b.getD k 0) % 10 :: pls (a.drop (k + 1)) (b.drop (k + 1)) ((c + a.getD k 0 + b.getD k 0) / 10) := by
  rw [pls_round (a.drop k) (b.drop k) c, headD_drop, headD_drop, List.tail_drop, List.tail_drop]
  rcases h with h | h | h
  · exact .inl (by rw [Ne, List.drop_eq_nil_iff]; omega)
  · exact .inr (.inl (by rw [Ne, List.drop_eq_nil_iff]; omega))
  · exact .inr (.inr h)
theorem pls_end {a b : List Nat} {k c : Nat} (h1 : ¬ k < a.length) (h2 : ¬ k < b.length) (hc : c = 0) : pls (a.drop k) (b.drop k) c = [] := by
  rw [hc, List.drop_of_length_le (by omega), List.drop_of_length_le (by omega), pls_nn0]

set_option maxHeartbeats 4000000 in
theorem rPlus_any (A A' : Option Addr) (n c n' c' : Nat) (a b : List Nat) (w : World) (B : Nat) (hB : B ≤ w.heap.size) (ha : RdD w B A a) (hla : a.length = n) (hb : RdD w B A' b) (hlb : b.length = n') (hn : n ≤ 1000000) (hn' : n' ≤ 1000000) (hda : ∀ x ∈ a, x < 10) (hdb : ∀ x ∈ b, x < 10) (hlen : (pls a b 0).length ≤ 2000000) :
    Calls Tryz.prog 26 #[.slice A n c, .slice A' n' c'] w fun e w' => ∃ v, e = .returned v ∧ OwD w' w.heap.size v (pls a b 0) ∧ Below w.heap.size w w' := by
  have HA := Lib.hid ha; have HLA := Lib.hid hla; have HB := Lib.hid hb; have HLB := Lib.hid hlb; have HDA := Lib.hid hda; have HDB := Lib.hid hdb; have HLEN := Lib.hid hlen
  clear ha hla hb hlb hda hdb hlen
  go_enter Tryz.func26, Tryz.ntmps26
  go_wp2_with fail
  go_loopg [5, 6, 7] (pls a b 0).length (fun gk v cy i wr => ∃ (k c : Nat) (out : List Nat), i = .int .i64 (k : Int) ∧ cy = .int .i64 (c : Int) ∧ c ≤ 1 ∧ k ≤ 2000000 ∧ gk = (pls (a.drop k) (b.drop k) c).length ∧ Hid (out.length = k) ∧ Hid (pls a b 0 = out ++ pls (a.drop k) (b.drop k) c) ∧ Hid (OwD wr w.heap.size v out) ∧ Hid (Below w.heap.size w wr))
  case atStart => exact ⟨0, 0, [], rfl, rfl, Nat.zero_le _, Nat.zero_le _, rfl, rfl, rfl, OwD.nil _ _, Below.refl _ _⟩
  case round =>
    as_aux_lemma =>
      obtain ⟨k, cy, out, rfl, rfl, hcy, hk, hgk, HO, HT, HV, HW⟩ := hrel
      have hz := HW.out.size
      have HGK := Lib.hid hgk
      clear hgk
      by_cases hgo : k < n ∨ k < n' ∨ 0 < cy
      · as_aux_lemma =>
          have hR := pls_step (a := a) (b := b) (k := k) (c := cy) (by rw [HLA.out, HLB.out]; exact hgo)
          have hx := getD_lt (b := 10) (by decide) HDA.out k
          have hy := getD_lt (b := 10) (by decide) HDB.out k
          obtain ⟨x, hxe⟩ : ∃ x, x = a.getD k 0 := ⟨_, rfl⟩
          obtain ⟨y, hye⟩ : ∃ y, y = b.getD k 0 := ⟨_, rfl⟩
          rw [← hxe] at hx hR
          rw [← hye] at hy hR
          have hcn : (cy + x + y) / 10 ≤ 1 := by omega
          have HR := Lib.hid hR
          have hol : out.length ≤ 2000000 := by rw [HO.out]; exact hk
          have hk2 : k + 1 ≤ 2000000 := by
            have h1 := HLEN.out
            rw [HT.out, List.length_append, HO.out, hR, List.length_cons] at h1
            omega
          have HT2 : Hid (pls a b 0 = (out ++ [(cy + x + y) % 10]) ++ pls (a.drop (k + 1)) (b.drop (k + 1)) ((cy + x + y) / 10)) := Lib.hid (by rw [HT.out, hR]; simp)
          have HO2 : Hid ((out ++ [(cy + x + y) % 10]).length = k + 1) := Lib.hid (by rw [List.length_append, HO.out]; rfl)
          clear hR
          by_cases h1 : k < n <;> by_cases h2 : k < n'
          · as_aux_lemma =>
              have d1 : decide (k < n) = true := decide_eq_true (by omega)
              have d2 : decide (k < n') = true := decide_eq_true (by omega)
              obtain ⟨ba, oa, rfl, hba, hca⟩ := (HA.out.below (HW.out.mono hB)).at_ (by rw [HLA.out]; omega)
              have ca := hca k (by rw [HLA.out]; exact h1)
              rw [← hxe] at ca
              clear hca
              obtain ⟨bb, ob, rfl, hbb, hcb⟩ := (HB.out.below (HW.out.mono hB)).at_ (by rw [HLB.out]; omega)
              have cb := hcb k (by rw [HLB.out]; exact h2)
              rw [← hye] at cb
              clear hcb
              clear hxe hye HA HB hgo
              go_wp2_with (at_builtin; refine wpList_app elIn rfl (.tmp 44) (.tmp 47) rfl w.heap.size _ out.length 1 (iv (dv out)) [.int .i64 (((cy : Int) + (x : Int) + (y : Int)) % 10)] rfl HV.out rfl rfl (by simp [Value.oneCell']) (by omega) (by omega) hz ?_; intro v' w1 hown2 hg hat)
              go_roundg (pls (a.drop (k + 1)) (b.drop (k + 1)) ((cy + x + y) / 10)).length
              case rel =>
                exact ⟨k + 1, (cy + x + y) / 10, out ++ [(cy + x + y) % 10], by go_num, by congr 1, hcn, hk2, rfl, HO2.out, HT2.out, OwD.snoc hown2 (by omega), HW.out.grown hg hz (own_base HV.out)⟩
              case measure => rw [HGK.out, HR.out, List.length_cons]; omega
          · as_aux_lemma =>
              have d1 : decide (k < n) = true := decide_eq_true (by omega)
              have d2 : decide (k < n') = false := decide_eq_false (by omega)
              obtain ⟨ba, oa, rfl, hba, hca⟩ := (HA.out.below (HW.out.mono hB)).at_ (by rw [HLA.out]; omega)
              have ca := hca k (by rw [HLA.out]; exact h1)
              rw [← hxe] at ca
              clear hca
              have hy0 : y = 0 := by rw [hye, List.getD_eq_getElem?_getD, List.getElem?_eq_none (by rw [HLB.out]; omega)]; rfl
              have HY0 := Lib.hid hy0; clear hy0
              clear hxe hye HA HB hgo
              go_wp2_with (at_builtin; refine wpList_app elIn rfl (.tmp 44) (.tmp 47) rfl w.heap.size _ out.length 1 (iv (dv out)) [.int .i64 (((cy : Int) + (x : Int)) % 10)] rfl HV.out rfl rfl (by simp [Value.oneCell']) (by omega) (by omega) hz ?_; intro v' w1 hown2 hg hat)
              go_roundg (pls (a.drop (k + 1)) (b.drop (k + 1)) ((cy + x + y) / 10)).length
              case rel =>
                obtain rfl := HY0.out
                exact ⟨k + 1, (cy + x + 0) / 10, out ++ [(cy + x + 0) % 10], by go_num, by congr 1, hcn, hk2, rfl, HO2.out, HT2.out, OwD.snoc hown2 (by omega), HW.out.grown hg hz (own_base HV.out)⟩
              case measure => rw [HGK.out, HR.out, List.length_cons]; omega
          · as_aux_lemma =>
              have d1 : decide (k < n) = false := decide_eq_false (by omega)
              have d2 : decide (k < n') = true := decide_eq_true (by omega)
              have hx0 : x = 0 := by rw [hxe, List.getD_eq_getElem?_getD, List.getElem?_eq_none (by rw [HLA.out]; omega)]; rfl
              have HX0 := Lib.hid hx0; clear hx0
              obtain ⟨bb, ob, rfl, hbb, hcb⟩ := (HB.out.below (HW.out.mono hB)).at_ (by rw [HLB.out]; omega)
              have cb := hcb k (by rw [HLB.out]; exact h2)
              rw [← hye] at cb
              clear hcb
              clear hxe hye HA HB hgo
              go_wp2_with (at_builtin; refine wpList_app elIn rfl (.tmp 44) (.tmp 47) rfl w.heap.size _ out.length 1 (iv (dv out)) [.int .i64 (((cy : Int) + (y : Int)) % 10)] rfl HV.out rfl rfl (by simp [Value.oneCell']) (by omega) (by omega) hz ?_; intro v' w1 hown2 hg hat)
              go_roundg (pls (a.drop (k + 1)) (b.drop (k + 1)) ((cy + x + y) / 10)).length
              case rel =>
                obtain rfl := HX0.out
                exact ⟨k + 1, (cy + 0 + y) / 10, out ++ [(cy + 0 + y) % 10], by go_num, by congr 1, hcn, hk2, rfl, HO2.out, HT2.out, OwD.snoc hown2 (by omega), HW.out.grown hg hz (own_base HV.out)⟩
              case measure => rw [HGK.out, HR.out, List.length_cons]; omega
          · as_aux_lemma =>
              have d1 : decide (k < n) = false := decide_eq_false (by omega)
              have d2 : decide (k < n') = false := decide_eq_false (by omega)
              have d3 : decide (0 < cy) = true := decide_eq_true (by omega)
              have hx0 : x = 0 := by rw [hxe, List.getD_eq_getElem?_getD, List.getElem?_eq_none (by rw [HLA.out]; omega)]; rfl
              have HX0 := Lib.hid hx0; clear hx0
              have hy0 : y = 0 := by rw [hye, List.getD_eq_getElem?_getD, List.getElem?_eq_none (by rw [HLB.out]; omega)]; rfl
              have HY0 := Lib.hid hy0; clear hy0
              clear hxe hye HA HB hgo
              go_wp2_with (at_builtin; refine wpList_app elIn rfl (.tmp 44) (.tmp 47) rfl w.heap.size _ out.length 1 (iv (dv out)) [.int .i64 (((cy : Int)) % 10)] rfl HV.out rfl rfl (by simp [Value.oneCell']) (by omega) (by omega) hz ?_; intro v' w1 hown2 hg hat)
              go_roundg (pls (a.drop (k + 1)) (b.drop (k + 1)) ((cy + x + y) / 10)).length
              case rel =>
                obtain rfl := HX0.out
                obtain rfl := HY0.out
                exact ⟨k + 1, (cy + 0 + 0) / 10, out ++ [(cy + 0 + 0) % 10], by go_num, by congr 1, hcn, hk2, rfl, HO2.out, HT2.out, OwD.snoc hown2 (by omega), HW.out.grown hg hz (own_base HV.out)⟩
              case measure => rw [HGK.out, HR.out, List.length_cons]; omega
      · as_aux_lemma =>
          have d0 : decide (k < n) = false := decide_eq_false (by omega)
          have d1 : decide (k < n') = false := decide_eq_false (by omega)
          have d2 : decide (0 < cy) = false := decide_eq_false (by omega)
          have HE : Hid (pls a b 0 = out) := Lib.hid (by rw [HT.out, pls_end (by rw [HLA.out]; omega) (by rw [HLB.out]; omega) (by omega), List.append_nil])
          have hkn : ¬ k < n := by omega
          have hkn' : ¬ k < n' := by omega
          clear hgo
          go_wp2_with fail
          go_ret
          exact ⟨_, rfl, by rw [HE.out]; exact HV.out, HW.out⟩
end Go.Proofs.YtkcpfpofimkkiaaGreatDoor
namespace Go.Proofs.YtkcpfpofimkkiaaGreatDoor
open Go.RowKit BigFrame
set_option linter.unusedVariables false
set_option linter.unusedSimpArgs false
set_option maxRecDepth 100000

theorem dg_nat (u : Nat) : ((dg u).toNat : Int) = 48 + ((u % 10 : Nat) : Int) := by
  have h : u % 10 < 10 := Nat.mod_lt _ (by decide)
  unfold dg
  rw [UInt8.toNat_ofNat']
  omega
theorem conv_dg (w : World) (x : Int) (u : Nat) (hx : x = ((dg u).toNat : Int)) :
    (convert 79 9 (.slice (some ⟨w.heap.size, 0, none⟩) 1 1)).run Tryz.prog (w.alloc (.cells #[.int .u8 x] 5)) = .ok (.string ⟨[dg u].toArray⟩) (w.alloc (.cells #[.int .u8 x] 5)) := by
  subst hx
  refine run_convert_bytes_back (P := Tryz.prog) _ 79 9 5 _ 1 [dg u] Tryz.underlying79 Tryz.underlying5 Tryz.underlying9 (fun j hj => ?_)
  have : j = 0 := by simp at hj; omega
  subst this
  simp [Addr.add]
theorem ba_cat (a b : List UInt8) : (ByteArray.mk a.toArray ++ ByteArray.mk b.toArray) = ByteArray.mk (a ++ b).toArray := by
  apply ByteArray.ext
  rw [ByteArray.data_append]
  simp

set_option maxHeartbeats 4000000 in
theorem decimal_any (A : Option Addr) (n c : Nat) (l : List Nat) (w : World) (B : Nat) (hB : B ≤ w.heap.size) (h : RdD w B A l) (hl : l.length = n) (hn : n ≤ 2000000) (hd : ∀ x ∈ l, x < 10) :
    Calls Tryz.prog 27 #[.slice A n c] w fun e w' => e = .returned (.string ⟨(Lib.decDigits (vB 10 l)).toArray⟩) ∧ Below w.heap.size w w' := by
  have H := Lib.hid h; have HL := Lib.hid hl; have HD := Lib.hid hd
  clear h hl hd
  go_enter Tryz.func27, Tryz.ntmps27
  go_wp2_with fail
  go_loop [3] (fun i => ∃ k : Nat, k ≤ n ∧ i = .int .i64 (k : Int) ∧ Hid (∀ j, k ≤ j → l.getD j 0 = 0)) (fun i => (intOf i).toNat)
  case atStart => exact ⟨n, Nat.le_refl _, rfl, fun j hj => by rw [List.getD_eq_getElem?_getD, List.getElem?_eq_none (by rw [HL.out]; omega)]; rfl⟩
  case round =>
    as_aux_lemma =>
      obtain ⟨k, hk, rfl, HZ⟩ := hrel
      by_cases h0 : k = 0
      · as_aux_lemma =>
          subst h0
          have HS := Lib.hid (dd_strip0 (fun j => HZ.out j (Nat.zero_le _)))
          clear HZ
          go_wp2_with fail
          go_ret
          exact ⟨by rw [HS.out]; rfl, Below.refl _ _⟩
      · as_aux_lemma =>
          obtain ⟨q, hq⟩ : ∃ q, k = q + 1 := ⟨k - 1, by omega⟩
          have hqi : (k : Int) - 1 = (q : Int) := by omega
          have d1 : decide (0 < k) = true := decide_eq_true (by omega)
          have d1z : ((k : Int) == 0) = false := by simp; omega
          obtain ⟨b, off, rfl, hb, hc⟩ := H.out.at_ (by rw [HL.out]; omega)
          have cq := hc q (by rw [HL.out]; omega)
          obtain ⟨x, hx⟩ : ∃ x, x = l.getD q 0 := ⟨_, rfl⟩
          rw [← hx] at cq
          have hqn : q < n := by omega
          have HQ := Lib.hid hq
          have HC := Lib.hid hc
          have HX := Lib.hid hx
          have hk0 : 0 < k := by omega
          clear hq hc hx h0
          by_cases hx0 : x = 0
          · as_aux_lemma =>
              have dx : ((x : Int) == 0) = true := by simp [hx0]
              go_wp2_with fail
              go_round
              case rel => exact ⟨q, by omega, rfl, fun j hj => by
                by_cases e : j = q
                · rw [e, ← HX.out, hx0]
                · exact HZ.out j (by rw [HQ.out]; omega)⟩
              case measure => simp [intOf]; have := HQ.out; omega
          · as_aux_lemma =>
              have dx : ((x : Int) == 0) = false := by simp; omega
              have HS := Lib.hid (dd_strip (l := l) (n := k) HD.out (by rw [HL.out]; exact hk) HZ.out hk0 (by rw [HQ.out, Nat.add_sub_cancel, ← HX.out]; exact hx0))
              clear HZ
              go_wp2_with fail
              go_loopw [4, 5] (fun s i wr => ∃ j : Nat, j ≤ k ∧ i = .int .i64 ((j : Int) - 1) ∧ s = .string ⟨(((l.take k).drop j).reverse.map dg).toArray⟩ ∧ Hid (Below w.heap.size w wr)) (fun _ i _ => (intOf i + 1).toNat)
              case atStart => exact ⟨k, Nat.le_refl _, by rw [hqi], by rw [List.drop_of_length_le (by rw [List.length_take]; omega)]; rfl, Below.refl _ _⟩
              case round =>
                as_aux_lemma =>
                  clear cq
                  obtain ⟨j, hj, rfl, rfl, HW⟩ := hrel
                  have hz := HW.out.size
                  by_cases h0 : j = 0
                  · as_aux_lemma =>
                      subst h0
                      rw [List.drop_zero]
                      have hz0 : ((0 : Nat) : Int) - 1 = -1 := rfl
                      go_wp2_with fail
                      go_ret
                      exact ⟨by rw [HS.out]; rfl, HW.out⟩
                  · as_aux_lemma =>
                      obtain ⟨p, hp⟩ : ∃ p, j = p + 1 := ⟨j - 1, by omega⟩
                      have hpi : (j : Int) - 1 = (p : Int) := by omega
                      have hb2 : b < wr.heap.size := by omega
                      have cp := (HW.out.cell (p := ⟨b, off + p, none⟩) (by show b < w.heap.size; omega)).trans (HC.out p (by rw [HL.out]; omega))
                      have hy := getD_lt (b := 10) (by decide) HD.out p
                      have hst := rev_step (l := l) (n := k) (i := p) (by omega) (by rw [HL.out]; exact hk)
                      rw [← hp] at hst
                      obtain ⟨y, hye⟩ : ∃ y, y = l.getD p 0 := ⟨_, rfl⟩
                      rw [← hye] at cp hy hst
                      have HCV := conv_dg wr (48 + (y : Int)) y (by rw [dg_nat]; omega)
                      obtain ⟨st, hst1⟩ : ∃ st, st = ((l.take k).drop j).reverse.map dg := ⟨_, rfl⟩
                      have hlen : st.length ≤ k := by rw [hst1, List.length_map, List.length_reverse, List.length_drop, List.length_take]; omega
                      rw [← hst1] at hst ⊢
                      have HST := Lib.hid hst
                      have hsz : (ByteArray.mk st.toArray).size ≤ 2000000 := by show st.toArray.size ≤ _; simp; omega
                      have hsz2 : (ByteArray.mk [dg y].toArray).size = 1 := rfl
                      have hcat := ba_cat st [dg y]
                      have hpn : p < n := by omega
                      have HP := Lib.hid hp
                      generalize (ByteArray.mk [dg y].toArray) = sd at *
                      generalize (ByteArray.mk st.toArray) = ss at *
                      have HCAT := Lib.hid hcat
                      have d0 : decide (0 ≤ (p : Int)) = true := by simp
                      clear hst hp hye hst1 hcat h0 hlen
                      rw [hpi]
                      go_wp2_with fail
                      go_roundw
                      case rel => exact ⟨p, by omega, rfl, by rw [HCAT.out, HST.out], HW.out.alloc hz _⟩
                      case measure => simp [intOf]
end Go.Proofs.YtkcpfpofimkkiaaGreatDoor
namespace Go.Proofs.YtkcpfpofimkkiaaGreatDoor
open Go.RowKit BigFrame
set_option linter.unusedVariables false
set_option linter.unusedSimpArgs false
set_option maxRecDepth 100000

/-- How many lists of N points, as a text. -/
def cntT (l : List St) (N : Int) : List UInt8 := if l.length = 0 ∨ N < 0 ∨ 200 < N then [48] else Lib.decDigits (cnt l N.toNat 0)
/-- Rows of digits read. -/
theorem RdM.digits {w : World} {B : Nat} {A : Option Addr} {L : List (List Nat)} (h : RdM w B A (L.map dv)) (h0 : 0 < L.length) :
    ∃ b off, A = some ⟨b, off, none⟩ ∧ b < B ∧ ∀ k, k < L.length → ∃ A' c', w.cell? ⟨b, off + k, none⟩ = some (.slice A' (L.getD k []).length c') ∧ (L.getD k []).length ≤ c' ∧ c' ≤ maxLen ∧ RdD w B A' (L.getD k []) := by
  obtain ⟨b, off, e, hb, hc⟩ := h (by rw [List.length_map]; exact h0)
  refine ⟨b, off, e, hb, fun k hk => ?_⟩
  have e1 : nthL (L.map dv) k = dv (L.getD k []) := by
    unfold nthL
    rw [List.getD_eq_getElem?_getD, List.getD_eq_getElem?_getD, List.getElem?_map, List.getElem?_eq_getElem hk]; rfl
  obtain ⟨A', c', z, q1, q2, r⟩ := hc k (by rw [List.length_map]; exact hk)
  rw [e1, dv_len] at z q1
  rw [e1] at r
  exact ⟨A', c', z, q1, q2, r⟩

set_option maxHeartbeats 4000000 in
theorem rCount_any (A : Option Addr) (n c : Nat) (l : List St) (N : Int) (w : World) (B : Nat) (hB : B ≤ w.heap.size) (h : (shL shState).rd w (Lo B) l [.slice A n c]) (hok : okA l = true) (hl : l.length = n) (hn : n ≤ 1000) (hm : totM l ≤ 60) :
    Calls Tryz.prog 10 #[.agg #[.slice A n c], .int .i64 N] w fun e w' => e = .returned (.string ⟨(cntT l N).toArray⟩) ∧ Below w.heap.size w w' := by
  have H := Lib.hid h; have HOK := Lib.hid hok; have HL := Lib.hid hl; have HM := Lib.hid hm
  obtain ⟨g, hg⟩ : ∃ g, w.heap.size = g := ⟨_, rfl⟩
  obtain ⟨W0, hW0⟩ : ∃ W0, W0 = w.alloc (.cells #[.slice A n c] 24) := ⟨_, rfl⟩
  have hb0 : Below g w W0 := by rw [hW0, ← hg]; exact (Below.refl _ _).alloc (Nat.le_refl _) _
  have hc0 : W0.cell? ⟨g, 0, none⟩ = some (.slice A n c) := by rw [hW0, ← hg]; simp
  have hs0 : W0.heap.size = g + 1 := by rw [hW0, ← hg]; simp
  have HB0 := Lib.hid hb0; have HS0 := Lib.hid hs0
  have hgB : B ≤ g := by omega
  clear h hok hl hm hb0
  by_cases hbad : n = 0 ∨ N < 0 ∨ 200 < N
  · have HT : Hid (cntT l N = [48]) := Lib.hid (by unfold cntT; rw [if_pos (by rw [HL.out]; exact hbad)])
    have HG := Lib.hid hg
    by_cases h0 : n = 0
    · have d1 : ((n : Int) == 0) = true := by simp [h0]
      clear hbad hg h0
      go_enter Tryz.func10, Tryz.ntmps10
      go_wp2_with fail
      rw [← hW0]
      clear hW0
      go_wp2_with fail
      go_ret
      exact ⟨by rw [HT.out]; rfl, by rw [HG.out]; exact HB0.out⟩
    have d1 : ((n : Int) == 0) = false := by simp; omega
    by_cases h1 : N < 0
    · have d2 : decide (N < 0) = true := decide_eq_true h1
      clear hbad hg
      go_enter Tryz.func10, Tryz.ntmps10
      go_wp2_with fail
      rw [← hW0]
      clear hW0
      go_wp2_with fail
      go_ret
      exact ⟨by rw [HT.out]; rfl, by rw [HG.out]; exact HB0.out⟩
    have d2 : decide (N < 0) = false := decide_eq_false h1
    have d3 : decide (200 < N) = true := decide_eq_true (by omega)
    clear hbad hg
    go_enter Tryz.func10, Tryz.ntmps10
    go_wp2_with fail
    rw [← hW0]
    clear hW0
    go_wp2_with fail
    go_ret
    exact ⟨by rw [HT.out]; rfl, by rw [HG.out]; exact HB0.out⟩
  obtain ⟨q, hq⟩ : ∃ q : Nat, N = (q : Int) := ⟨N.toNat, by omega⟩
  subst hq
  have hq200 : q ≤ 200 := by omega
  have hn0 : 0 < n := by omega
  have d1 : ((n : Int) == 0) = false := by simp; omega
  have d2 : decide ((q : Int) < 0) = false := decide_eq_false (by omega)
  have d3 : decide (200 < (q : Int)) = false := decide_eq_false (by omega)
  have HT : Hid (cntT l (q : Int) = Lib.decDigits (cnt l q 0)) := Lib.hid (by unfold cntT; rw [if_neg (by rw [HL.out]; exact hbad)]; rfl)
  have HG := Lib.hid hg
  clear hbad
  go_enter Tryz.func10, Tryz.ntmps10
  go_wp2_with fail
  rw [← hW0]
  clear hW0
  go_wp2_with fail
  clear hg
  go_loopw [5, 6] (fun v i wr => ∃ (k : Nat) (vs : List Value) (L : List (List Nat)), k ≤ n ∧ i = .int .i64 (k : Int) ∧ Hid (OwM wr (g + 1) v vs (L.map dv)) ∧ Hid (DgR l 0 k L) ∧ Hid (Below (g + 1) W0 wr)) (fun _ i _ => n - (intOf i).toNat)
  case atStart => exact ⟨0, [], [], Nat.zero_le _, rfl, OwM.nil _ _, DgR.nil _ _, Below.refl _ _⟩
  case round =>
    as_aux_lemma =>
      obtain ⟨k, vs, L, hk, rfl, HV, HD, HB⟩ := hrel
      have hzr : g + 1 ≤ wr.heap.size := by have := HB.out.size; omega
      have zg := (HB.out.cell (p := ⟨g, 0, none⟩) (by show g < g + 1; omega)).trans hc0
      have hLl := HD.out.len
      have HLL := Lib.hid hLl
      by_cases hlt : k < n
      · as_aux_lemma =>
          have d0 : decide (k < n) = true := decide_eq_true hlt
          have hkl : k < l.length := by rw [HL.out]; exact hlt
          obtain ⟨b, off, rfl, hb, hst⟩ := states_at (Sh.below H.out (HB0.out.mono hgB)) (by omega)
          obtain ⟨g1, -⟩ := hst k _ (List.getElem?_eq_getElem hkl)
          have HNX := Lib.hid (HD.out.push0 (List.getElem?_eq_getElem hkl))
          have hbg : b < g + 1 := Nat.lt_of_lt_of_le hb (by omega)
          have y1 := (HB.out.cell (p := ⟨b, off + k * 2, none⟩) hbg).trans g1
          generalize l[k] = s at *
          obtain ⟨r, ms⟩ := s
          simp only at y1 g1
          clear hst hLl
          by_cases hr : 0 ≤ r
          · as_aux_lemma =>
              have d2 : decide (0 ≤ r) = true := decide_eq_true hr
              rw [if_pos hr] at HNX
              go_wp2_with (first | (at_builtin; refine wpList_app elIn rfl (.tmp 41) (.tmp 42) rfl wr.heap.size (.slice none 0 0) 0 1 [] [.int .i64 1] rfl (World.ownsRow_nil _ _ _ _) rfl rfl (by simp [Value.oneCell']) (by omega) (by omega) (Nat.le_refl _) ?_; intro v1 w1 hown1 hg1 hat1; have hb1 : Below wr.heap.size wr w1 := (Below.refl _ _).grown hg1 (Nat.le_refl _) (fun k e => by simp [Value.ownBlock] at e); have HV1 := Lib.hid (HV.out.ext hb1); have HB1 := Lib.hid (HB.out.trans (hb1.mono hzr)); have HO1 := Lib.hid (ownsRow_base hown1 hzr); obtain ⟨A1, c1, rfl, -, -⟩ := own_len hown1; clear hown1 hg1 hat1 hb1) | (at_builtin; refine wpList_app elRows rfl (.tmp 44) (.tmp 46) rfl (g + 1) _ k 1 vs [.slice A1 (0 + 1) c1] rfl (by have := HV1.out.row; rw [List.length_map, HLL.out] at this; exact this) rfl rfl (by simp [Value.oneCell']) (by omega) (by omega) (Nat.le_trans (Nat.le_of_eq hs0.symm) HB1.out.size) ?_; intro v2 w2 hown2 hg2 hat2))
              go_roundw
              case rel => exact ⟨k + 1, vs ++ [.slice A1 (0 + 1) c1], L ++ [[1]], by omega, by go_num, Lib.hid (by rw [List.map_append]; exact HV1.out.push hg2 HO1.out (by rw [List.length_map, HLL.out]; exact hown2)), HNX.out, HB1.out.grown hg2 (Nat.le_trans (Nat.le_of_eq hs0.symm) HB1.out.size) (own_base HV1.out.row)⟩
              case measure => simp [intOf]; omega
          · as_aux_lemma =>
              have d2 : decide (0 ≤ r) = false := decide_eq_false hr
              rw [if_neg hr] at HNX
              go_wp2_with (at_builtin; refine wpList_app elRows rfl (.tmp 44) (.tmp 46) rfl (g + 1) _ k 1 vs [.slice none 0 0] rfl (by have := HV.out.row; rw [List.length_map, HLL.out] at this; exact this) rfl rfl (by simp [Value.oneCell']) (by omega) (by omega) hzr ?_; intro v2 w2 hown2 hg2 hat2)
              go_roundw
              case rel => exact ⟨k + 1, vs ++ [.slice none 0 0], L ++ [[]], by omega, by go_num, Lib.hid (by rw [List.map_append]; exact HV.out.push hg2 (World.ownsRow_nil _ _ _ _) (by rw [List.length_map, HLL.out]; exact hown2)), HNX.out, HB.out.grown hg2 hzr (own_base HV.out.row)⟩
              case measure => simp [intOf]; omega
      · as_aux_lemma =>
          have d0 : decide (k < n) = false := decide_eq_false hlt
          obtain rfl : k = n := by omega
          obtain ⟨A5, c5, e5, -, -, hrd⟩ := HV.out.rd
          rw [List.length_map, HLL.out] at e5
          subst e5
          have HR5 : Hid (RdM wr wr.heap.size A5 (L.map dv)) := Lib.hid hrd
          clear hrd HV
          obtain ⟨ws, rfl⟩ : ∃ ws : World, ws = wr := ⟨_, rfl⟩
          go_wp2_with fail
          go_loopw [5, 8] (fun v i wr => ∃ (j : Nat) (A5 : Option Addr) (c5 : Nat) (L : List (List Nat)), j ≤ q ∧ i = .int .i64 (j : Int) ∧ v = .slice A5 k c5 ∧ Hid (RdM wr wr.heap.size A5 (L.map dv)) ∧ Hid (DgR l j k L) ∧ Hid (Below (g + 1) W0 wr)) (fun _ i _ => q - (intOf i).toNat)
          case atStart => exact ⟨0, A5, c5, L, Nat.zero_le _, rfl, rfl, HR5.out, HD.out, HB.out⟩
          case round =>
            as_aux_lemma =>
              clear HR5 HD HB zg HLL hzr hLl
              obtain ⟨j, A5, c5, L, hj, rfl, rfl, HR, HD, HB⟩ := hrel
              have hzr : g + 1 ≤ wr.heap.size := by have := HB.out.size; omega
              have zg := (HB.out.cell (p := ⟨g, 0, none⟩) (by show g < g + 1; omega)).trans hc0
              have hLl := HD.out.len
              have HLL := Lib.hid hLl
              clear hLl
              by_cases hjq : j < q
              · as_aux_lemma =>
                  have d0 : decide (j < q) = true := decide_eq_true hjq
                  obtain ⟨wo, rfl⟩ : ∃ wo : World, wo = wr := ⟨_, rfl⟩
                  go_wp2_with fail
                  go_loopw [9, 10] (fun v i wr => ∃ (s : Nat) (vs : List Value) (Ln : List (List Nat)), s ≤ k ∧ i = .int .i64 (s : Int) ∧ Hid (OwM wr wo.heap.size v vs (Ln.map dv)) ∧ Hid (DgR l (j + 1) s Ln) ∧ Hid (Below wo.heap.size wo wr)) (fun _ i _ => k - (intOf i).toNat)
                  case atStart => exact ⟨0, [], [], Nat.zero_le _, rfl, OwM.nil _ _, DgR.nil _ _, Below.refl _ _⟩
                  case round =>
                    as_aux_lemma =>
                      obtain ⟨s, vs, Ln, hs, rfl, HV, HDN, HBW⟩ := hrel
                      have hzw := HBW.out.size
                      have zg2 := (HBW.out.cell (p := ⟨g, 0, none⟩) (by show g < wo.heap.size; omega)).trans zg
                      have HLN := Lib.hid HDN.out.len
                      have HBA : Hid (Below (g + 1) W0 wr) := Lib.hid (HB.out.trans (HBW.out.mono hzr))
                      by_cases hsk : s < k
                      · as_aux_lemma =>
                          have d1 : decide (s < k) = true := decide_eq_true hsk
                          have hkl : s < l.length := by rw [HL.out]; exact hsk
                          obtain ⟨b, off, rfl, hb, hst⟩ := states_at (Sh.below H.out (HB0.out.mono hgB)) (by omega)
                          obtain ⟨-, A', c', g2, g3, g4, g5⟩ := hst s _ (List.getElem?_eq_getElem hkl)
                          have hbg : b < g + 1 := Nat.lt_of_lt_of_le hb (by omega)
                          have htk := totM_take (List.getElem?_eq_getElem hkl)
                          have hle := totM_le l (s + 1)
                          have HST := Lib.hid (List.getElem?_eq_getElem hkl)
                          have HMV := Lib.hid (okA_mvs HOK.out _ (List.getElem_mem hkl))
                          generalize l[s] = st at *
                          obtain ⟨r, ms⟩ := st
                          obtain ⟨m, hm⟩ : ∃ m, m = ms.length := ⟨_, rfl⟩
                          have hm60 : m ≤ 60 := by have := HM.out; simp only at htk; omega
                          simp only at g2 g3 g5
                          rw [← hm] at g2 g3 g5
                          have HSM := Lib.hid hm; have HMS := Lib.hid g5; have HG2 := Lib.hid g2
                          have y2 := (HBA.out.cell (p := ⟨b, off + s * 2 + 1, none⟩) hbg).trans g2
                          unfold maxLen at g4
                          clear hm g5 htk hle g2 hst
                          go_wp2_with fail
                          obtain ⟨wi, rfl⟩ : ∃ wi : World, wi = wr := ⟨_, rfl⟩
                          go_loopw [11, 12] (fun v i wr => ∃ (t : Nat) (S : List Nat), t ≤ m ∧ i = .int .i64 (t : Int) ∧ Hid (OwD wr wo.heap.size v S) ∧ Hid (DgS l j ms t S) ∧ Hid (Below wi.heap.size wi wr)) (fun _ i _ => m - (intOf i).toNat)
                          case atStart => exact ⟨0, [], Nat.zero_le _, rfl, OwD.nil _ _, DgS.start _ _ _, Below.refl _ _⟩
                          case round =>
                            as_aux_lemma =>
                              clear zg2 y2
                              obtain ⟨t, S, ht, rfl, HV2, HDS, HB2⟩ := hrel
                              have hz2 := HB2.out.size
                              have HBR : Hid (Below (g + 1) W0 wr) := Lib.hid (HBA.out.trans (HB2.out.mono (by omega)))
                              have HBR2 : Hid (Below wo.heap.size wo wr) := Lib.hid (HBW.out.trans (HB2.out.mono hzw))
                              have zg2 := (HBR.out.cell (p := ⟨g, 0, none⟩) (by show g < g + 1; omega)).trans hc0
                              have y2 := (HBR.out.cell (p := ⟨b, off + s * 2 + 1, none⟩) hbg).trans HG2.out
                              clear zg hc0
                              by_cases htm : t < m
                              · as_aux_lemma =>
                                  have d2 : decide (t < m) = true := decide_eq_true htm
                                  have htl : t < ms.length := by rw [← HSM.out]; exact htm
                                  obtain ⟨b2, o2, rfl, hb2, hc2⟩ := moves_at HMS.out (by omega)
                                  have hmv := List.getElem?_eq_getElem htl
                                  obtain ⟨u1, u2, u3⟩ := hc2 t _ hmv
                                  have hbg2 : b2 < g + 1 := Nat.lt_of_lt_of_le hb2 (by omega)
                                  have u1 := (HBR.out.cell (p := ⟨b2, o2 + t * 3, none⟩) hbg2).trans u1
                                  have u2 := (HBR.out.cell (p := ⟨b2, o2 + t * 3 + 1, none⟩) hbg2).trans u2
                                  have u3 := (HBR.out.cell (p := ⟨b2, o2 + t * 3 + 2, none⟩) hbg2).trans u3
                                  obtain ⟨m1, m2, m3, m4, m5⟩ := HMV.out _ (List.getElem_mem htl)
                                  generalize ms[t] = mv at *
                                  have hwl := wid_lt m1 m3
                                  have HMVT := Lib.hid hmv
                                  obtain ⟨x, y, z⟩ := mv
                                  simp only at u1 u2 u3 m1 m2 m3 m4 m5
                                  obtain ⟨zn, rfl⟩ : ∃ zn : Nat, z = (zn : Int) := ⟨z.toNat, by omega⟩
                                  obtain ⟨wn, hwn⟩ : ∃ wn, wn = wid (x, y, (zn : Int)) := ⟨_, rfl⟩
                                  have hwi : y - x + 1 = (wn : Int) := by rw [hwn]; unfold wid; simp only; omega
                                  have hznk : zn < k := by rw [HL.out] at m5; omega
                                  obtain ⟨b5, o5, rfl, hb5, hrow⟩ := HR.out.digits (by rw [HLL.out]; exact hn0)
                                  obtain ⟨A7, c7, z7, q1, q2, r7⟩ := hrow zn (by rw [HLL.out]; exact hznk)
                                  have z7 := (HBR2.out.cell (p := ⟨b5, o5 + zn, none⟩) hb5).trans z7
                                  have hd7 := HD.out.d zn
                                  have hv7 := HD.out.v zn hznk
                                  have hl7 := HD.out.b zn
                                  obtain ⟨D, hD⟩ : ∃ D, D = L.getD zn [] := ⟨_, rfl⟩
                                  rw [← hD] at z7 r7 hd7 hv7 hl7 q1
                                  rw [← hwn] at hwl
                                  obtain ⟨hadd, had2, had3⟩ := HDS.out.add hmv (by rw [← hwn]; exact hwl) hd7 hv7 hl7
                                  rw [← hwn] at hadd had2 had3
                                  have HADD := Lib.hid hadd; have HAD3 := Lib.hid had3
                                  have hj200 : j ≤ 200 := by omega
                                  have hSl : S.length ≤ 20000 := by have := HDS.out.b; omega
                                  have hSl2 : (pls S (tby wn D 0) 0).length ≤ 20000 := by have := hadd.b; omega
                                  have hSd := Lib.hid HDS.out.d
                                  obtain ⟨A8, c8, rfl, -, -, hr8⟩ := HV2.out.form
                                  obtain ⟨w1, hw1⟩ : ∃ w1, w1 = wr.alloc (.cells #[.int .i64 x, .int .i64 y, .int .i64 (zn : Int)] 35) := ⟨_, rfl⟩
                                  have hb1 : Below wr.heap.size wr w1 := by rw [hw1]; exact (Below.refl _ _).alloc (Nat.le_refl _) _
                                  have hk1 : Blk w1 wr.heap.size 35 [.int .i64 x, .int .i64 y, .int .i64 (zn : Int)] := by rw [hw1]; exact Blk.new wr _ _
                                  have hs1 : w1.heap.size = wr.heap.size + 1 := by rw [hw1]; simp
                                  have HB1 := Lib.hid hb1; have HK1 := Lib.hid hk1; have HS1 := Lib.hid hs1
                                  have HR7 := Lib.hid r7; have HR8 := Lib.hid hr8; have HZ7 := Lib.hid z7; have HD7 := Lib.hid hd7
                                  have hDl : D.length ≤ 20000 := by omega
                                  have htl2 : (tby wn D 0).length ≤ 20000 := by omega
                                  have hbb5 : b5 < wr.heap.size := by have := HBR2.out.size; omega
                                  clear hc2 hrow q1 q2 hd7 hv7 hl7 hadd had2 had3 hD hb1 hk1 hs1 r7 hr8 z7 hmv hwn
                                  go_wp2_with fail
                                  rw [← hw1]
                                  clear hw1 u1 u2 u3
                                  obtain ⟨wd, hwd⟩ : ∃ wd, wd = w1.drew := ⟨_, rfl⟩
                                  have hbd : Below w1.heap.size w1 wd := by rw [hwd]; exact (Below.refl _ _).drew
                                  have hsd : wd.heap.size = wr.heap.size + 1 := by rw [hwd]; exact HS1.out
                                  have HBD : Hid (Below wr.heap.size wr wd) := Lib.hid (HB1.out.trans (hbd.mono (by have := HS1.out; omega)))
                                  have hkd := HK1.out.below' hbd
                                  have k7 : ∀ X : WB wd.heap.size wd, X.val.cell? ⟨b5, o5 + zn, none⟩ = some (.slice A7 D.length c7) := fun X => (X.bel.cell (p := ⟨b5, o5 + zn, none⟩) (by show b5 < _; omega)).trans ((HBD.out.cell (p := ⟨b5, o5 + zn, none⟩) hbb5).trans HZ7.out)
                                  have k0 : ∀ X : WB wd.heap.size wd, X.val.cell? ⟨wr.heap.size, 0, none⟩ = some (.int .i64 x) := fun X => (X.bel.cell (p := ⟨wr.heap.size, 0, none⟩) hkd.lt).trans (hkd.cell (i := 0) rfl)
                                  have k1 : ∀ X : WB wd.heap.size wd, X.val.cell? ⟨wr.heap.size, 1, none⟩ = some (.int .i64 y) := fun X => (X.bel.cell (p := ⟨wr.heap.size, 1, none⟩) hkd.lt).trans (hkd.cell (i := 1) rfl)
                                  have k2 : ∀ X : WB wd.heap.size wd, X.val.cell? ⟨wr.heap.size, 2, none⟩ = some (.int .i64 (zn : Int)) := fun X => (X.bel.cell (p := ⟨wr.heap.size, 2, none⟩) hkd.lt).trans (hkd.cell (i := 2) rfl)
                                  have HTB := Lib.hid (timesBy_any A7 D.length c7 wn D wd wd.heap.size (Nat.le_refl _) (RdD.more (RdD.below HR7.out (HBR2.out.trans (HBD.out.mono (HBR2.out.size)))) (by have := HBR2.out.size; omega)) rfl (by omega) HD7.out (by omega) (by omega))
                                  clear hbd hkd
                                  refine wp_region_S (fun w' => ∃ X : WB wd.heap.size wd, w' = X.val) (by kernel_rfl) ?_
                                  rw [← hwd]
                                  clear hwd
                                  show wpAnyS _ _ _ _ _ (2 + 11) _ _ _
                                  refine takeS 2 0 11 (by kernel_rfl) (by kernel_rfl) (fun _ _ d _ _ h => by cases d <;> exact h) ⟨⟨_, Below.refl _ _⟩, rfl⟩ ?_
                                  simp only [List.take_succ_cons, List.take_zero, List.drop_succ_cons, List.drop_zero]
                                  repeat (first | go_big_quiet_skip | (go_big_quiet_want; go_big_quiet_op; go_big_quiet_on))
                                  refine wpQuiet_nil ?_
                                  clear k0 k1 k2 k7
                                  refine oneS 1 11 (by kernel_rfl) (by decide) ?_
                                  simp only [List.take_succ_cons, List.take_zero, List.drop_succ_cons, List.drop_zero]
                                  go_wp2_with fail
                                  refine HTB.out.mono ?_
                                  rintro e w3 ⟨v3, rfl, hv3, hb3⟩
                                  have hz3 := hb3.size
                                  have HX3 := Lib.hid hb3
                                  have HB3 : Hid (Below wr.heap.size wr w3) := Lib.hid (HBD.out.trans (hb3.mono (by omega)))
                                  obtain ⟨A3, c3, rfl, -, -, hr3⟩ := OwD.form hv3
                                  have HPL := Lib.hid (rPlus_any A8 A3 S.length c8 (tby wn D 0).length c3 S (tby wn D 0) w3 w3.heap.size (Nat.le_refl _) (RdD.more (RdD.below HR8.out HB3.out) (by omega)) rfl hr3 rfl (by omega) (by omega) hSd.out HAD3.out (by omega))
                                  clear hv3 hb3 hr3 HTB
                                  go_wp2_with fail
                                  refine ⟨⟨WB.mk _ HX3.out, rfl⟩, ?_⟩
                                  show wpAnyS _ _ _ _ _ (0 + 1) _ _ _
                                  refine takeS 0 12 1 (by kernel_rfl) (by kernel_rfl) (fun _ _ d _ _ h => by cases d <;> exact h) ⟨⟨_, HX3.out⟩, rfl⟩ ?_
                                  simp only [List.take_succ_cons, List.take_zero, List.drop_succ_cons, List.drop_zero]
                                  repeat (first | go_big_quiet_skip | (go_big_quiet_want; go_big_quiet_op; go_big_quiet_on))
                                  refine wpQuiet_nil ?_
                                  refine endS (by kernel_rfl) ?_
                                  go_wp2_with fail
                                  refine HPL.out.mono ?_
                                  rintro e w4 ⟨v4, rfl, hv4, hb4⟩
                                  have HB4 : Hid (Below wi.heap.size wi w4) := Lib.hid (HB2.out.trans ((HB3.out.trans (hb4.mono (by omega))).mono hz2))
                                  have HV4 := Lib.hid (ownsRow_base hv4 (show wo.heap.size ≤ w3.heap.size by omega))
                                  clear hv4 hb4 HPL
                                  go_wp2_with fail
                                  go_roundw
                                  case rel => exact ⟨t + 1, _, by omega, by go_num, HV4.out, HADD.out, HB4.out⟩
                                  case measure => simp [intOf]; omega
                              · as_aux_lemma =>
                                  have d2 : decide (t < m) = false := decide_eq_false htm
                                  obtain rfl : t = m := by omega
                                  have hdn := HDS.out
                                  rw [HSM.out] at hdn
                                  have hdn2 := DgS.done (st := (r, ms)) hdn HST.out (by show ms.length ≤ 60; rw [← HSM.out]; exact hm60)
                                  have HPU := Lib.hid (HDN.out.push hdn2.1 hdn2.2.1 hdn2.2.2)
                                  obtain ⟨A8, c8, rfl, -, -⟩ := own_len HV2.out
                                  have HVX := Lib.hid (HV.out.ext HB2.out)
                                  clear hdn hdn2 HDS
                                  go_wp2_with (at_builtin; refine wpList_app elRows rfl (.tmp 95) (.tmp 97) rfl wo.heap.size _ s 1 vs [.slice A8 S.length c8] rfl (by have := HVX.out.row; rw [List.length_map, HLN.out] at this; exact this) rfl rfl (by simp [Value.oneCell']) (by omega) (by omega) (by omega) ?_; intro v2 w2 hown2 hg2 hat2)
                                  go_roundw
                                  case rel => exact ⟨s + 1, vs ++ [.slice A8 S.length c8], Ln ++ [S], by omega, by go_num, Lib.hid (by rw [List.map_append]; exact HVX.out.push hg2 (by rw [dv_len]; exact HV2.out) (by rw [List.length_map, HLN.out]; exact hown2)), HPU.out, HBR2.out.grown hg2 (by omega) (own_base HVX.out.row)⟩
                                  case measure => simp [intOf]; omega
                      · as_aux_lemma =>
                          have d1 : decide (s < k) = false := decide_eq_false hsk
                          obtain rfl : s = k := by omega
                          obtain ⟨A9, c9, e9, -, -, hr9⟩ := HV.out.rd
                          rw [List.length_map, HLN.out] at e9
                          subst e9
                          have HR9 := Lib.hid hr9
                          clear hr9 HV HR
                          go_wp2_with fail
                          go_roundw
                          case rel => exact ⟨j + 1, A9, c9, Ln, by omega, by go_num, rfl, HR9.out, HDN.out, HBA.out⟩
                          case measure => simp [intOf]; omega
              · as_aux_lemma =>
                  have d0 : decide (j < q) = false := decide_eq_false hjq
                  obtain rfl : j = q := by omega
                  obtain ⟨b, off, rfl, hb, hrow⟩ := HR.out.digits (by rw [HLL.out]; exact hn0)
                  obtain ⟨A', c', z, q1, q2, r⟩ := hrow 0 (by rw [HLL.out]; exact hn0)
                  rw [Nat.add_zero] at z
                  have hd0 := HD.out.d 0
                  have hv0 := HD.out.v 0 hn0
                  have hb0 := HD.out.b 0
                  obtain ⟨S, hS⟩ : ∃ S, S = L.getD 0 [] := ⟨_, rfl⟩
                  rw [← hS] at z r hd0 hv0 hb0
                  have HDC := Lib.hid (decimal_any A' S.length c' S wr wr.heap.size (Nat.le_refl _) r rfl (by omega) hd0)
                  rw [hv0] at HDC
                  clear hrow q1 q2 r hd0 hv0 hb0 hS HR
                  go_wp2_with fail
                  refine HDC.out.mono ?_
                  rintro e w5 ⟨rfl, hb5⟩
                  have HB5 := Lib.hid (HB0.out.trans ((HB.out.mono (by omega)).trans (hb5.mono (by omega))))
                  clear hb5
                  go_wp2_with fail
                  go_ret
                  exact ⟨by rw [HT.out]; rfl, by rw [HG.out]; exact HB5.out⟩
end Go.Proofs.YtkcpfpofimkkiaaGreatDoor
