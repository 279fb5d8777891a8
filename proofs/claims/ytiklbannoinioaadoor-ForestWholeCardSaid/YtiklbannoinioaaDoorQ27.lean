/- The program's show and Show: a tree as a text. · strings.HasPrefix laid at this seat. · strings.Repeat of a zero; the text of the program's whole number. -/
import Derived.Test.YtiklbannoinioaaDoorQ26
import Derived.Shelf.Strings.Prefix
import Derived.Test.YtiklbannoinioaaDoorQ25
import Derived.Test.YtiklbannoinioaaDoorQ19
namespace Go.Proofs.YtiklbannoinioaaDoor
open Go.RowKit BigFrame
set_option linter.unusedVariables false
set_option linter.unusedSimpArgs false
set_option maxRecDepth 100000

abbrev Pow (w : World) : Prop := Lib.TabIs Tryd.prog w "internal/strconv.uint64pow10" .u64 Lib.pow10Tab
theorem Pow.below {B : Nat} {w w' : World} (h : Pow w) (hB : 0 < B) (hb : Below B w w') : Pow w' := by
  have hg : Tryd.prog.globalNamed "internal/strconv.uint64pow10" = some 0 := by kernel_rfl
  unfold Pow Lib.TabIs World.var? at h ⊢
  rw [hg] at h ⊢
  simp only [Option.bind_some] at h ⊢
  rw [hb.block _ hB]
  exact h
theorem bel_grow (w : World) (k : Nat) (os : Array Obj) : Below w.heap.size w (Sort.grow (w.drewN k) os) := by
  refine ⟨rfl, rfl, rfl, ?_, fun b hb => ?_⟩
  · show w.heap.size ≤ (w.heap ++ os).size
    simp
  · show (w.heap ++ os)[b]? = w.heap[b]?
    exact Array.getElem?_append_left hb
theorem own_bel {w w' : World} {base : Nat} {e : TypeId} {size : Nat} {v : Value} {n : Nat} {xs : List Value} (h : w.ownsRow base e size v n xs) (hb : Below w.heap.size w w') : w'.ownsRow base e size v n xs := by
  refine ⟨h.1, ?_⟩
  rcases h.2 with hn | ⟨g, cap, cur, rfl, hbg, hg, rest⟩
  · exact .inl hn
  · refine .inr ⟨g, cap, cur, rfl, hbg, ?_, rest⟩
    rw [hb.block g (Array.getElem?_eq_some_iff.1 hg).1]
    exact hg
theorem BldAt_bel {T e : TypeId} {B b : Nat} {p : Value} {l : List Value} {w w' : World} (h : Lib.BuilderAt T e B b p l w) (hb : Below w.heap.size w w') : Lib.BuilderAt T e B b p l w' := by
  have hlt := h.lt
  obtain ⟨h1, v, h2, h3, h4⟩ := h
  exact ⟨h1, v, by rw [hb.block b hlt]; exact h2, own_bel h3 hb, h4⟩
theorem Bld.bel {B b : Nat} {l : List UInt8} {w w' : World} (h : Bld B b l w) (hb : Below w.heap.size w w') : Bld B b l w' := by
  rcases h with h | h
  · exact .inl (BldAt_bel h hb)
  · exact .inr (BldAt_bel h hb)
theorem itoa_any (n : Int) (h0 : -9223372036854775808 ≤ n) (h1 : n ≤ 9223372036854775807) (w : World) (hp : Pow w) :
    Calls Tryd.prog 31 #[.int .i64 n] w fun e w' => e = .returned (bs (Lib.itoa n)) ∧ Below w.heap.size w w' := by
  refine (y_strconv_Itoa n h0 h1 w hp).mono ?_
  rintro e w' ⟨rfl, k, os, rfl⟩
  exact ⟨rfl, bel_grow w k os⟩

set_option maxHeartbeats 4000000 in
theorem show_nil (B b : Nat) (l : List UInt8) (w : World) (h : Bld B b l w) (hl : l.length ≤ 2000000000) (hB : B ≤ w.heap.size) :
    Calls Tryd.prog 22 #[.pointer (some ⟨b, 0, none⟩), .pointer none] w fun e w' => e = .returned (.tuple #[]) ∧ Bld B b (l ++ showT .nil) w' ∧ Below B w w' := by
  have HW := Lib.hid (write_any B b l [40, 41] w h (by simp; omega) hB)
  have HS : Hid (showT .nil = [40, 41]) := Lib.hid (by rw [showT])
  clear h
  unfold bs at HW
  go_enter Tryd.func22, Tryd.ntmps22
  go_wp2_with fail
  refine HW.out.mono ?_
  rintro e w5 ⟨rfl, h5, hb5⟩
  go_wp2_with fail
  (try simp only [Exit.inBlock, Exit.then]); refine bodyPost_ret (results_none rfl _ _ _) rfl ?_
  exact ⟨rfl, by rw [HS.out]; exact h5, hb5⟩

set_option maxHeartbeats 4000000 in
theorem show_node (B b : Nat) (hgl : 0 < B) (N : Nat) (hN : N ≤ 60000000) (ih : ∀ (t : Tr), szT t ≤ N → IntT t → ∀ (v : Value) (l : List UInt8) (w : World), Bld B b l w → l.length + 25 * szT t ≤ 2000000000 → B ≤ w.heap.size → Pow w → TrB w B v t →
    Calls Tryd.prog 22 #[.pointer (some ⟨b, 0, none⟩), v] w fun e w' => e = .returned (.tuple #[]) ∧ Bld B b (l ++ showT t) w' ∧ Below B w w')
    (p tok : Int) (ks : List Tr) (h : 1 + szL ks ≤ N + 1) (hi : IntT (.node p tok ks)) (v : Value) (l : List UInt8) (w : World) (hbl : Bld B b l w) (hl : l.length + 25 * (1 + szL ks) ≤ 2000000000) (hB : B ≤ w.heap.size) (hp : Pow w) (hT : TrB w B v (.node p tok ks)) :
    Calls Tryd.prog 22 #[.pointer (some ⟨b, 0, none⟩), v] w fun e w' => e = .returned (.tuple #[]) ∧ Bld B b (l ++ showT (.node p tok ks)) w' ∧ Below B w w' := by
  obtain ⟨a, A2, c2, rfl, hb, zp, zt, zk, hk1, hk2, hks⟩ := hT.node_inv
  cases hi
  rename_i hp1 hp2 ht1 ht2 hik
  have HIH := Lib.hid ih; have HSZ := Lib.hid h; have HKS := Lib.hid hks; have HIK := Lib.hid hik; have HT := Lib.hid hT; have HP := Lib.hid hp; have HBL := Lib.hid hbl; have HL := Lib.hid hl
  have hkl : ks.length ≤ N := by have := szL_len ks; omega
  unfold maxLen at hk2
  clear ih h hks hik hT hp hbl
  by_cases q1 : p < 0
  · as_aux_lemma =>
      have d1 : decide (p < 0) = true := decide_eq_true q1
      have HN := Lib.hid (itoa_any tok ht1 ht2 w HP.out)
      have HS : Hid (showT (.node p tok ks) = Lib.itoa tok) := Lib.hid (by rw [showT, if_pos q1])
      have hil := itoa_len ht1 ht2
      generalize Lib.itoa tok = it at *
      clear q1
      go_enter Tryd.func22, Tryd.ntmps22
      go_wp2_with fail
      refine HN.out.mono ?_
      rintro e w5 ⟨rfl, hb5⟩
      have HW := Lib.hid (write_any B b l it w5 (HBL.out.bel hb5) (by omega) (Nat.le_trans hB hb5.size))
      have HB5 := Lib.hid hb5
      clear hb5
      unfold bs at HW ⊢
      go_wp2_with fail
      refine HW.out.mono ?_
      rintro e w6 ⟨rfl, h6, hb6⟩
      go_wp2_with fail
      (try simp only [Exit.inBlock, Exit.then]); refine bodyPost_ret (results_none rfl _ _ _) rfl ?_
      exact ⟨rfl, by rw [HS.out]; exact h6, (HB5.out.mono hB).trans hb6⟩
  · as_aux_lemma =>
      have d1 : decide (p < 0) = false := decide_eq_false q1
      have HN := Lib.hid (itoa_any p hp1 hp2 w HP.out)
      have HS : Hid (showT (.node p tok ks) = [40] ++ Lib.itoa p ++ showL ks ++ [41]) := Lib.hid (by rw [showT, if_neg q1])
      have hil := itoa_len hp1 hp2
      generalize Lib.itoa p = ip at *
      have hc1 : ¬ 9223372036854775807 < 1 + ip.length := by omega
      clear q1
      go_enter Tryd.func22, Tryd.ntmps22
      go_wp2_with fail
      refine HN.out.mono ?_
      rintro e w5 ⟨rfl, hb5⟩
      have HW := Lib.hid (write_any B b l ([40] ++ ip) w5 (HBL.out.bel hb5) (by simp; omega) (Nat.le_trans hB hb5.size))
      have HB5 := Lib.hid hb5
      clear hb5
      unfold bs at HW ⊢
      rw [← ba_app] at HW
      go_wp2_with fail
      refine HW.out.mono ?_
      rintro e w6 ⟨rfl, h6, hb6⟩
      have HB6 : Hid (Below B w w6) := Lib.hid ((HB5.out.mono hB).trans hb6)
      have H6 := Lib.hid h6
      have zk6 := (HB6.out.cell (p := ⟨a, 2, none⟩) hb).trans zk
      clear h6 hb6
      go_wp2_with fail
      have hsl := (showL_len ks HIK.out)
      have HTL := Lib.hid (fun j => (szL_take ks j))
      go_loopw [37] (fun i wr => ∃ (j : Nat), j ≤ ks.length ∧ i = .int .i64 (j : Int) ∧ Hid (Bld B b (l ++ ([40] ++ ip) ++ showL (ks.take j)) wr) ∧ Hid (Below B w wr)) (fun i _ => ks.length - (intOf i).toNat)
      case atStart => exact ⟨0, Nat.zero_le _, rfl, Lib.hid (by rw [List.take_zero, showL, List.append_nil]; exact H6.out), HB6⟩
      case round =>
        as_aux_lemma =>
          obtain ⟨j, hj, rfl, HD, HB⟩ := hrel
          have hLl : (l ++ ([40] ++ ip) ++ showL (ks.take j)).length ≤ l.length + 21 + 25 * szL ks := by
            have h1 := showL_len (ks.take j) (fun k hk => HIK.out k (List.mem_of_mem_take hk))
            have h2 := HTL.out j
            simp only [List.length_append, List.length_cons, List.length_nil]
            omega
          by_cases hlt : j < ks.length
          · as_aux_lemma =>
              obtain ⟨k, hkk⟩ : ∃ k, ks[j]? = some k := ⟨ks[j], List.getElem?_eq_getElem hlt⟩
              obtain ⟨kb, ko, rfl, hkb, hkc⟩ := HKS.out (by omega)
              obtain ⟨u, zu, hu⟩ := hkc j k hkk
              have hmem := List.mem_of_getElem? hkk
              have hsz : szT k ≤ N := by
                have h1 := szL_mem hmem
                have h2 := HSZ.out
                omega
              have hsq : szL (ks.take (j + 1)) = szL (ks.take j) + szT k := by
                rw [List.take_add_one, hkk]
                simp only [Option.toList_some]
                rw [szL_append, szL, szL]
                omega
              have hlk : (l ++ ([40] ++ ip) ++ showL (ks.take j)).length + 1 + 25 * szT k ≤ 2000000000 := by
                have h1 := showL_len (ks.take j) (fun k hk => HIK.out k (List.mem_of_mem_take hk))
                have h2 := HTL.out (j + 1)
                simp only [List.length_append, List.length_cons, List.length_nil]
                omega
              obtain ⟨pu, rfl⟩ := hu.ptr
              have zu2 := (HB.out.cell (p := ⟨kb, ko + j, none⟩) hkb).trans zu
              have HU := Lib.hid hu
              have HST := Lib.hid (showL_take hkk)
              have HK := Lib.hid (HIK.out k hmem)
              have HW := Lib.hid (write_any B b _ [32] wr HD.out (by simp only [List.length_cons, List.length_nil]; omega) (Nat.le_trans hB HB.out.size))
              have HLK : Hid ((l ++ ([40] ++ ip) ++ showL (ks.take j) ++ [32]).length + 25 * szT k ≤ 2000000000) := Lib.hid (by rw [List.length_append, List.length_cons, List.length_nil]; omega)
              unfold bs at HW
              clear hkc hu zu zk hmem hsq hlk HKS HSZ HIK HT hkk HTL hLl hsl
              go_wp2_with fail
              refine HW.out.mono ?_
              rintro e w7 ⟨rfl, h7, hb7⟩
              have HB7 : Hid (Below B w w7) := Lib.hid (HB.out.trans hb7)
              have HC := Lib.hid (HIH.out k hsz HK.out (.pointer pu) _ w7 h7 HLK.out (Nat.le_trans hB HB7.out.size) (HP.out.below hgl HB7.out) (TrB.below HU.out HB7.out))
              clear h7 hb7
              go_wp2_with fail
              refine HC.out.mono ?_
              rintro e w8 ⟨rfl, h8, hb8⟩
              have HB8 : Hid (Below B w w8) := Lib.hid (HB7.out.trans hb8)
              have HD8 : Hid (Bld B b (l ++ ([40] ++ ip) ++ showL (ks.take (j + 1))) w8) := Lib.hid (by rw [HST.out]; simpa using h8)
              clear h8 hb8
              go_wp2
              go_roundw
              case rel => exact ⟨j + 1, by omega, by go_num, HD8, HB8⟩
              case measure => simp [intOf]; omega
          · as_aux_lemma =>
              have hje : j = ks.length := by omega
              have HD1 : Hid (Bld B b (l ++ ([40] ++ ip) ++ showL ks) wr) := Lib.hid (by have := HD.out; rw [hje, List.take_length] at this; exact this)
              have HW := Lib.hid (write_any B b _ [41] wr HD1.out (by
                have h1 := showL_len ks HIK.out
                simp only [List.length_append, List.length_cons, List.length_nil]
                omega) (Nat.le_trans hB HB.out.size))
              unfold bs at HW
              clear hje HD zk hLl
              go_wp2_with fail
              refine HW.out.mono ?_
              rintro e w7 ⟨rfl, h7, hb7⟩
              go_wp2_with fail
              go_end0
              exact ⟨rfl, by rw [HS.out]; simpa using h7, HB.out.trans hb7⟩

theorem show_any (B b : Nat) (hgl : 0 < B) : ∀ (N : Nat), N ≤ 60000000 → ∀ (t : Tr), szT t ≤ N → IntT t → ∀ (v : Value) (l : List UInt8) (w : World), Bld B b l w → l.length + 25 * szT t ≤ 2000000000 → B ≤ w.heap.size → Pow w → TrB w B v t →
    Calls Tryd.prog 22 #[.pointer (some ⟨b, 0, none⟩), v] w fun e w' => e = .returned (.tuple #[]) ∧ Bld B b (l ++ showT t) w' ∧ Below B w w' := by
  intro N
  induction N with
  | zero => intro _ t h; have := szT_pos t; omega
  | succ N ih =>
    intro hN t h hi v l w hbl hl hB hp hT
    cases t with
    | nil =>
      obtain rfl := hT.nil_inv
      exact show_nil B b l w hbl (by omega) hB
    | node p tok ks =>
      rw [szT] at h hl
      exact show_node B b hgl N (by omega) (ih (by omega)) p tok ks (by omega) hi v l w hbl (by omega) hB hp hT

set_option maxHeartbeats 4000000 in
theorem pshow_any (B : Nat) (hgl : 0 < B) (t : Tr) (ht : szT t ≤ 60000000) (hi : IntT t) (v : Value) (w : World) (hB : B ≤ w.heap.size) (hp : Pow w) (hT : TrB w B v t) :
    Calls Tryd.prog 11 #[v] w fun e w' => e = .returned (bs (showT t)) ∧ Below w.heap.size w w' := by
  have HT := Lib.hid hT; have HP := Lib.hid hp
  clear hT hp
  go_enter Tryd.func11, Tryd.ntmps11
  go_wp2_with fail
  have hb1 : Below w.heap.size w (w.alloc (.cells #[.pointer none, .slice none 0 0] 66)) := (Below.refl _ _).alloc (Nat.le_refl _) _
  have hsz : (w.alloc (.cells #[.pointer none, .slice none 0 0] 66)).heap.size = w.heap.size + 1 := by simp
  have hshow := show_any w.heap.size w.heap.size (Nat.lt_of_lt_of_le hgl hB) 60000000 (by decide) t ht hi v [] _ (Lib.fresh_isBuilder 66 5 w) (by simp; omega) (by rw [hsz]; omega) (HP.out.below (Nat.lt_of_lt_of_le hgl hB) hb1) (TrB.below (TrB.more HT.out hB) hb1)
  refine hshow.mono ?_
  rintro e w5 ⟨rfl, h5, hb5⟩
  have HB5 : Hid (Below w.heap.size w w5) := Lib.hid (hb1.trans hb5)
  have HS := Lib.hid (y_Builder_String_any w.heap.size w.heap.size (showT t) w5 h5 (by have := HB5.out.size; exact this))
  clear h5 hb5 hshow hsz hb1
  go_wp2_with fail
  refine HS.out.mono ?_
  rintro e w6 ⟨rfl, hb6⟩
  go_wp2_with fail
  go_ret
  exact ⟨rfl, HB5.out.trans hb6⟩
end Go.Proofs.YtiklbannoinioaaDoor
namespace Go.Proofs.YtiklbannoinioaaDoor
open Go.Shelf
def y_lays206_ren : Go.Shelf.Ren := ⟨fun | 206 => 52 | n => n, fun | 9 => 9 | 4 => 4 | 3 => 3 | n => n, fun | n => n⟩
theorem y_lays206 : Go.Proofs.Lays.n206 Tryd.prog y_lays206_ren := {
  mixed := by kernel_rfl
  f206 := Tryd.func52.trans (congrArg some (by kernel_rfl))
  t3 := Tryd.underlying3
  a3 := Tryd.isAgg3
  z3 := Tryd.sizeOf3
  v3 := Tryd.zeroValue3
  t4 := Tryd.underlying4
  a4 := Tryd.isAgg4
  z4 := Tryd.sizeOf4
  v4 := Tryd.zeroValue4
  t9 := Tryd.underlying9
  a9 := Tryd.isAgg9
  z9 := Tryd.sizeOf9
  v9 := Tryd.zeroValue9 }
open Go.RowKit Go.Lib in
/-- internal/stringslite.HasPrefix (what strings.HasPrefix calls). (LAID: no walk: one application.) -/
theorem y_stringslite_HasPrefix (s p : ByteArray) (w : World) :
    Calls Tryd.prog 52 #[.string s, .string p] w fun e w' => e = .returned (.bool (Lib.hasPrefix s.data.toList p.data.toList)) ∧ w' = w := Any.stringslite_HasPrefix y_lays206 s p w
def y_lays99_ren : Go.Shelf.Ren := ⟨fun | 99 => 45 | 206 => 52 | n => n, fun | 9 => 9 | 4 => 4 | 3 => 3 | n => n, fun | n => n⟩
theorem y_lays99 : Go.Proofs.Lays.n99 Tryd.prog y_lays99_ren := {
  mixed := by kernel_rfl
  f99 := Tryd.func45.trans (congrArg some (by kernel_rfl))
  f206 := Tryd.func52.trans (congrArg some (by kernel_rfl))
  t3 := Tryd.underlying3
  a3 := Tryd.isAgg3
  z3 := Tryd.sizeOf3
  v3 := Tryd.zeroValue3
  t4 := Tryd.underlying4
  a4 := Tryd.isAgg4
  z4 := Tryd.sizeOf4
  v4 := Tryd.zeroValue4
  t9 := Tryd.underlying9
  a9 := Tryd.isAgg9
  z9 := Tryd.sizeOf9
  v9 := Tryd.zeroValue9 }
open Go.RowKit Go.Lib in
/-- strings.HasPrefix: "HasPrefix reports whether the string s begins with prefix.": IT RETURNS 'Lib.hasPrefix s prefix'; the world is as it was. (LAID: no walk: one application.) -/
theorem y_strings_HasPrefix (s p : ByteArray) (w : World) :
    Calls Tryd.prog 45 #[.string s, .string p] w fun e w' => e = .returned (.bool (Lib.hasPrefix s.data.toList p.data.toList)) ∧ w' = w := Any.strings_HasPrefix y_lays99 s p w
end Go.Proofs.YtiklbannoinioaaDoor
namespace Go.Proofs.YtiklbannoinioaaDoor
open Go.RowKit BigFrame
set_option linter.unusedVariables false
set_option linter.unusedSimpArgs false
set_option maxRecDepth 100000

theorem ba_cat (a b : List UInt8) : (ByteArray.mk a.toArray ++ ByteArray.mk b.toArray) = ByteArray.mk (a ++ b).toArray := by
  apply ByteArray.ext
  rw [ByteArray.data_append]
  simp

set_option maxHeartbeats 4000000 in
theorem repeat_zero (c : Nat) (hc : c ≤ 8) (w : World) :
    Calls Tryd.prog 32 #[.string ⟨#[48]⟩, .int .i64 (c : Int)] w fun e w' => e = .returned (.string ⟨(List.replicate c 48).toArray⟩) ∧ w' = w := by
  by_cases h0 : c = 0
  · subst h0
    go_enter Tryd.func32, Tryd.ntmps32
    go_wp2_with fail
    go_ret
    exact ⟨rfl, rfl⟩
  by_cases h1 : c = 1
  · subst h1
    go_enter Tryd.func32, Tryd.ntmps32
    go_wp2_with fail
    go_ret
    exact ⟨rfl, rfl⟩
  by_cases h2 : c = 2
  · subst h2
    have HM := Lib.hid (y_bits_Mul 1 2 (by decide) (by decide) w)
    go_enter Tryd.func32, Tryd.ntmps32
    go_wp2_with fail
    refine HM.out.mono ?_
    rintro e w' ⟨rfl, rfl⟩
    go_wp2_with fail
    refine (y_strings_HasPrefix _ _ _).mono ?_
    rintro e w' ⟨rfl, rfl⟩
    generalize hpx : Lib.hasPrefix _ _ = pb
    have hpy : pb = false := by rw [← hpx]; rfl
    subst hpy; clear hpx
    go_wp2_with fail
    refine (y_strings_HasPrefix _ _ _).mono ?_
    rintro e w' ⟨rfl, rfl⟩
    generalize hpx : Lib.hasPrefix _ _ = pb
    have hpy : pb = false := by rw [← hpx]; rfl
    subst hpy; clear hpx
    go_wp2_with fail
    refine (y_strings_HasPrefix _ _ _).mono ?_
    rintro e w' ⟨rfl, rfl⟩
    generalize hpx : Lib.hasPrefix _ _ = pb
    have hpy : pb = true := by rw [← hpx]; rfl
    subst hpy; clear hpx
    go_wp2_with fail
    go_ret
    exact ⟨rfl, rfl⟩
  by_cases h3 : c = 3
  · subst h3
    have HM := Lib.hid (y_bits_Mul 1 3 (by decide) (by decide) w)
    go_enter Tryd.func32, Tryd.ntmps32
    go_wp2_with fail
    refine HM.out.mono ?_
    rintro e w' ⟨rfl, rfl⟩
    go_wp2_with fail
    refine (y_strings_HasPrefix _ _ _).mono ?_
    rintro e w' ⟨rfl, rfl⟩
    generalize hpx : Lib.hasPrefix _ _ = pb
    have hpy : pb = false := by rw [← hpx]; rfl
    subst hpy; clear hpx
    go_wp2_with fail
    refine (y_strings_HasPrefix _ _ _).mono ?_
    rintro e w' ⟨rfl, rfl⟩
    generalize hpx : Lib.hasPrefix _ _ = pb
    have hpy : pb = false := by rw [← hpx]; rfl
    subst hpy; clear hpx
    go_wp2_with fail
    refine (y_strings_HasPrefix _ _ _).mono ?_
    rintro e w' ⟨rfl, rfl⟩
    generalize hpx : Lib.hasPrefix _ _ = pb
    have hpy : pb = true := by rw [← hpx]; rfl
    subst hpy; clear hpx
    go_wp2_with fail
    go_ret
    exact ⟨rfl, rfl⟩
  by_cases h4 : c = 4
  · subst h4
    have HM := Lib.hid (y_bits_Mul 1 4 (by decide) (by decide) w)
    go_enter Tryd.func32, Tryd.ntmps32
    go_wp2_with fail
    refine HM.out.mono ?_
    rintro e w' ⟨rfl, rfl⟩
    go_wp2_with fail
    refine (y_strings_HasPrefix _ _ _).mono ?_
    rintro e w' ⟨rfl, rfl⟩
    generalize hpx : Lib.hasPrefix _ _ = pb
    have hpy : pb = false := by rw [← hpx]; rfl
    subst hpy; clear hpx
    go_wp2_with fail
    refine (y_strings_HasPrefix _ _ _).mono ?_
    rintro e w' ⟨rfl, rfl⟩
    generalize hpx : Lib.hasPrefix _ _ = pb
    have hpy : pb = false := by rw [← hpx]; rfl
    subst hpy; clear hpx
    go_wp2_with fail
    refine (y_strings_HasPrefix _ _ _).mono ?_
    rintro e w' ⟨rfl, rfl⟩
    generalize hpx : Lib.hasPrefix _ _ = pb
    have hpy : pb = true := by rw [← hpx]; rfl
    subst hpy; clear hpx
    go_wp2_with fail
    go_ret
    exact ⟨rfl, rfl⟩
  by_cases h5 : c = 5
  · subst h5
    have HM := Lib.hid (y_bits_Mul 1 5 (by decide) (by decide) w)
    go_enter Tryd.func32, Tryd.ntmps32
    go_wp2_with fail
    refine HM.out.mono ?_
    rintro e w' ⟨rfl, rfl⟩
    go_wp2_with fail
    refine (y_strings_HasPrefix _ _ _).mono ?_
    rintro e w' ⟨rfl, rfl⟩
    generalize hpx : Lib.hasPrefix _ _ = pb
    have hpy : pb = false := by rw [← hpx]; rfl
    subst hpy; clear hpx
    go_wp2_with fail
    refine (y_strings_HasPrefix _ _ _).mono ?_
    rintro e w' ⟨rfl, rfl⟩
    generalize hpx : Lib.hasPrefix _ _ = pb
    have hpy : pb = false := by rw [← hpx]; rfl
    subst hpy; clear hpx
    go_wp2_with fail
    refine (y_strings_HasPrefix _ _ _).mono ?_
    rintro e w' ⟨rfl, rfl⟩
    generalize hpx : Lib.hasPrefix _ _ = pb
    have hpy : pb = true := by rw [← hpx]; rfl
    subst hpy; clear hpx
    go_wp2_with fail
    go_ret
    exact ⟨rfl, rfl⟩
  by_cases h6 : c = 6
  · subst h6
    have HM := Lib.hid (y_bits_Mul 1 6 (by decide) (by decide) w)
    go_enter Tryd.func32, Tryd.ntmps32
    go_wp2_with fail
    refine HM.out.mono ?_
    rintro e w' ⟨rfl, rfl⟩
    go_wp2_with fail
    refine (y_strings_HasPrefix _ _ _).mono ?_
    rintro e w' ⟨rfl, rfl⟩
    generalize hpx : Lib.hasPrefix _ _ = pb
    have hpy : pb = false := by rw [← hpx]; rfl
    subst hpy; clear hpx
    go_wp2_with fail
    refine (y_strings_HasPrefix _ _ _).mono ?_
    rintro e w' ⟨rfl, rfl⟩
    generalize hpx : Lib.hasPrefix _ _ = pb
    have hpy : pb = false := by rw [← hpx]; rfl
    subst hpy; clear hpx
    go_wp2_with fail
    refine (y_strings_HasPrefix _ _ _).mono ?_
    rintro e w' ⟨rfl, rfl⟩
    generalize hpx : Lib.hasPrefix _ _ = pb
    have hpy : pb = true := by rw [← hpx]; rfl
    subst hpy; clear hpx
    go_wp2_with fail
    go_ret
    exact ⟨rfl, rfl⟩
  by_cases h7 : c = 7
  · subst h7
    have HM := Lib.hid (y_bits_Mul 1 7 (by decide) (by decide) w)
    go_enter Tryd.func32, Tryd.ntmps32
    go_wp2_with fail
    refine HM.out.mono ?_
    rintro e w' ⟨rfl, rfl⟩
    go_wp2_with fail
    refine (y_strings_HasPrefix _ _ _).mono ?_
    rintro e w' ⟨rfl, rfl⟩
    generalize hpx : Lib.hasPrefix _ _ = pb
    have hpy : pb = false := by rw [← hpx]; rfl
    subst hpy; clear hpx
    go_wp2_with fail
    refine (y_strings_HasPrefix _ _ _).mono ?_
    rintro e w' ⟨rfl, rfl⟩
    generalize hpx : Lib.hasPrefix _ _ = pb
    have hpy : pb = false := by rw [← hpx]; rfl
    subst hpy; clear hpx
    go_wp2_with fail
    refine (y_strings_HasPrefix _ _ _).mono ?_
    rintro e w' ⟨rfl, rfl⟩
    generalize hpx : Lib.hasPrefix _ _ = pb
    have hpy : pb = true := by rw [← hpx]; rfl
    subst hpy; clear hpx
    go_wp2_with fail
    go_ret
    exact ⟨rfl, rfl⟩
  by_cases h8 : c = 8
  · subst h8
    have HM := Lib.hid (y_bits_Mul 1 8 (by decide) (by decide) w)
    go_enter Tryd.func32, Tryd.ntmps32
    go_wp2_with fail
    refine HM.out.mono ?_
    rintro e w' ⟨rfl, rfl⟩
    go_wp2_with fail
    refine (y_strings_HasPrefix _ _ _).mono ?_
    rintro e w' ⟨rfl, rfl⟩
    generalize hpx : Lib.hasPrefix _ _ = pb
    have hpy : pb = false := by rw [← hpx]; rfl
    subst hpy; clear hpx
    go_wp2_with fail
    refine (y_strings_HasPrefix _ _ _).mono ?_
    rintro e w' ⟨rfl, rfl⟩
    generalize hpx : Lib.hasPrefix _ _ = pb
    have hpy : pb = false := by rw [← hpx]; rfl
    subst hpy; clear hpx
    go_wp2_with fail
    refine (y_strings_HasPrefix _ _ _).mono ?_
    rintro e w' ⟨rfl, rfl⟩
    generalize hpx : Lib.hasPrefix _ _ = pb
    have hpy : pb = true := by rw [← hpx]; rfl
    subst hpy; clear hpx
    go_wp2_with fail
    go_ret
    exact ⟨rfl, rfl⟩
  omega
theorem itoa_natW (x : Nat) : Lib.itoa (x : Int) = Lib.decDigits x := by
  unfold Lib.itoa
  rw [if_neg (by omega), Int.toNat_natCast]
theorem itoaN (x : Nat) (hx : x < 1000000000) (w : World) (hp : Pow w) :
    Calls Tryd.prog 31 #[.int .i64 (x : Int)] w fun e w' => e = .returned (bs (Lib.decDigits x)) ∧ Below w.heap.size w w' := by
  rw [← itoa_natW]; exact itoa_any (x : Int) (by omega) (by omega) w hp

set_option maxHeartbeats 4000000 in
theorem textN_any (A : Option Addr) (n c : Nat) (l : List Nat) (w : World) (B : Nat) (hgl : 0 < B) (hB : B ≤ w.heap.size) (h : RdU w B A l) (hl : l.length = n) (hn : n ≤ 100000000) (hN : Nm l) (hp : Pow w) :
    Calls Tryd.prog 20 #[.slice A n c] w fun e w' => e = .returned (bs (Lib.decDigits (vB 1000000000 l))) ∧ Below w.heap.size w w' := by
  have H := Lib.hid h; have HL := Lib.hid hl; have HN := Lib.hid hN; have HP := Lib.hid hp
  clear h hl hN hp
  by_cases h0 : n = 0
  · have d1 : ((n : Int) == 0) = true := by simp [h0]
    have HS : Hid (bs (Lib.decDigits (vB 1000000000 l)) = .string ⟨#[48]⟩) := Lib.hid (by
      rw [List.length_eq_zero_iff.1 (show l.length = 0 by rw [HL.out]; exact h0), show vB 1000000000 [] = 0 from rfl, dd_small 0 (by decide)]; rfl)
    clear h0
    go_enter Tryd.func20, Tryd.ntmps20
    go_wp2_with fail
    go_ret
    exact ⟨by rw [HS.out]; rfl, Below.refl _ _⟩
  have d1 : ((n : Int) == 0) = false := by simp; omega
  obtain ⟨m, hm⟩ : ∃ m, n = m + 1 := ⟨n - 1, by omega⟩
  have hmi : (n : Int) - 1 = (m : Int) := by omega
  have hmi2 : (n : Int) - 2 = (m : Int) - 1 := by omega
  have hmn : m < n := by omega
  have HM := Lib.hid hm
  obtain ⟨g, hg⟩ : ∃ g, w.heap.size = g := ⟨_, rfl⟩
  obtain ⟨w1, hw1⟩ : ∃ w1, w1 = w.alloc (.cells #[.pointer none, .slice none 0 0] 66) := ⟨_, rfl⟩
  have hb1 : Below g w w1 := by rw [hw1, ← hg]; exact (Below.refl _ _).alloc (Nat.le_refl _) _
  have HF : Hid (Bld g g [] w1) := Lib.hid (by rw [hw1, ← hg]; exact Lib.fresh_isBuilder 66 5 w)
  have hz1 : w1.heap.size = g + 1 := by rw [hw1, ← hg]; simp
  obtain ⟨ba, oa, rfl, hba, hca⟩ := H.out.at_ (by rw [HL.out]; omega)
  have HC : Hid (∀ k, k < n → w.cell? ⟨ba, oa + k, none⟩ = some (.int .u32 ((l.getD k 0 : Nat) : Int))) := Lib.hid (fun k hk => hca k (by rw [HL.out]; exact hk))
  have hbg : ba < g := by omega
  have cm := (hb1.cell (p := ⟨ba, oa + m, none⟩) hbg).trans (HC.out m hmn)
  have hx := getD_lt (b := 1000000000) (by decide) HN.out.d m
  have htop := dd_top (l := l) (fun e => by have := HL.out; rw [e] at this; simp at this; omega)
  have hm2 : l.length - 1 = m := by rw [HL.out]; omega
  rw [hm2] at htop
  have hglg : 0 < g := by omega
  obtain ⟨x, hxe⟩ : ∃ x, x = l.getD m 0 := ⟨_, rfl⟩
  rw [← hxe] at cm hx htop
  have cmA := cm
  rw [hw1] at cmA
  have HT := Lib.hid htop
  have HB1 := Lib.hid hb1
  have HG := Lib.hid hg
  have HIT := Lib.hid (itoaN x hx w1 (HP.out.below hglg hb1))
  have hdl := dd_len 9 x hx (by decide)
  have HDL := Lib.hid hdl
  clear hca hxe htop hm2 hb1 h0 hm hB hba hdl
  unfold bs at HIT
  go_enter Tryd.func20, Tryd.ntmps20
  go_wp2_with fail
  rw [← hw1]
  clear hw1 hg cmA
  go_wp2_with fail
  refine HIT.out.mono ?_
  rintro e w2 ⟨rfl, hb2⟩
  have HB2 : Hid (Below g w w2) := Lib.hid (HB1.out.trans (hb2.mono (by omega)))
  have hz2 := hb2.size
  have HW := Lib.hid (write_any g g [] (Lib.decDigits x) w2 (HF.out.bel hb2) (by have := HDL.out; simp; omega) (by omega))
  clear hb2 HIT cm
  unfold bs at HW
  go_wp2_with fail
  refine HW.out.mono ?_
  rintro e w3 ⟨rfl, h3, hb3⟩
  have HB3 : Hid (Below g w w3) := Lib.hid (HB2.out.trans hb3)
  have H3 := Lib.hid h3
  clear hb3 h3 HW HB2
  go_wp2_with fail
  have HS3 : Hid (Bld g g (Lib.decDigits (vB 1000000000 (l.drop m))) w3) := Lib.hid (by rw [HT.out]; exact H3.out)
  have HL3 : Hid ((Lib.decDigits (vB 1000000000 (l.drop m))).length ≤ 9 * (n - m)) := Lib.hid (by rw [HT.out]; have := HDL.out; omega)
  go_loopw [4] (fun i wr => ∃ j : Nat, j ≤ m ∧ i = .int .i64 ((j : Int) - 1) ∧ Hid (Bld g g (Lib.decDigits (vB 1000000000 (l.drop j))) wr) ∧ Hid ((Lib.decDigits (vB 1000000000 (l.drop j))).length ≤ 9 * (n - j)) ∧ Hid (Below g w wr)) (fun i _ => (intOf i + 1).toNat)
  case atStart => exact ⟨m, Nat.le_refl _, rfl, HS3.out, HL3.out, HB3.out⟩
  case round =>
    as_aux_lemma =>
      clear HS3 HL3 H3 HB3 HT
      obtain ⟨j, hj, rfl, HBD, HLE, HBW⟩ := hrel
      have hzr := HBW.out.size
      have hgw := HG.out
      by_cases h0 : j = 0
      · as_aux_lemma =>
          subst h0
          rw [List.drop_zero] at HBD
          have HS := Lib.hid (y_Builder_String_any g g _ wr HBD.out (by omega))
          go_wp2_with fail
          refine HS.out.mono ?_
          rintro e w6 ⟨rfl, hb6⟩
          go_wp2_with fail
          go_ret
          exact ⟨rfl, by rw [hgw]; exact HBW.out.trans hb6⟩
      · as_aux_lemma =>
          obtain ⟨p, hp⟩ : ∃ p, j = p + 1 := ⟨j - 1, by omega⟩
          have hpi : (j : Int) - 1 = (p : Int) := by omega
          have hpn : p < n := by omega
          have cp := (HBW.out.cell (p := ⟨ba, oa + p, none⟩) hbg).trans (HC.out p hpn)
          have hy := getD_lt (b := 1000000000) (by decide) HN.out.d p
          have hdr := dd_drop HN.out (i := p) (by rw [HL.out]; omega)
          rw [← hp] at hdr
          obtain ⟨y, hye⟩ : ∃ y, y = l.getD p 0 := ⟨_, rfl⟩
          rw [← hye] at cp hy hdr
          have HIT := Lib.hid (itoaN y hy wr (HP.out.below hglg HBW.out))
          have hdl := dd_len 9 y hy (by decide)
          have hdp := dd_len_pos y
          obtain ⟨T0, hT0⟩ : ∃ T0, T0 = Lib.decDigits (vB 1000000000 (l.drop j)) := ⟨_, rfl⟩
          rw [← hT0] at HBD HLE hdr
          have hle0 := HLE.out
          have hnj : n - j ≤ 100000000 := by omega
          have hnp : n - p = (n - j) + 1 := by omega
          have hbig : T0.length + 9 ≤ 1000000000 := by omega
          obtain ⟨r, hr⟩ : ∃ r, 9 - (Lib.decDigits y).length = r := ⟨_, rfl⟩
          have hri : (9 : Int) - ((Lib.decDigits y).length : Int) = (r : Int) := by omega
          unfold pad at hdr
          rw [hr] at hdr
          have hr8 : r ≤ 8 := by omega
          have hrl : r + (Lib.decDigits y).length = 9 := by omega
          obtain ⟨D, hD⟩ : ∃ D, D = Lib.decDigits y := ⟨_, rfl⟩
          unfold bs at HIT
          rw [← hD] at HIT hdl hdp hri hdr hrl
          have hcat := ba_cat (List.replicate r 48) D
          have hsz1 : (ByteArray.mk (List.replicate r 48).toArray).size = r := by show (List.replicate r (48 : UInt8)).toArray.size = r; simp
          have hsz2 : (ByteArray.mk D.toArray).size = D.length := by show D.toArray.size = _; simp
          have HDR := Lib.hid hdr
          have HLE2 : Hid ((T0 ++ (List.replicate r 48 ++ D)).length ≤ 9 * (n - p)) := Lib.hid (by
            rw [List.length_append, List.length_append, List.length_replicate]; omega)
          have HCAT := Lib.hid hcat
          have hcap : ¬ 9223372036854775807 < r + D.length := by omega
          clear hdr hye hT0 hle0 hnj hnp hr hD hp h0 hcat HLE
          rw [hpi]
          go_wp2_with fail
          refine HIT.out.mono ?_
          rintro e w2 ⟨rfl, hb2⟩
          have hz2 := hb2.size
          have HB2 : Hid (Below g w w2) := Lib.hid (HBW.out.trans (hb2.mono (by omega)))
          have HBD2 := Lib.hid (HBD.out.bel hb2)
          have HRP := Lib.hid (repeat_zero r hr8 w2)
          clear hb2 HIT cp
          go_wp2_with fail
          refine HRP.out.mono ?_
          rintro e w3' ⟨rfl, rfl⟩
          have HW := Lib.hid (write_any g g T0 (List.replicate r 48 ++ D) w3' HBD2.out (by rw [List.length_append, List.length_replicate]; omega) (by omega))
          unfold bs at HW
          rw [← HCAT.out] at HW
          clear HRP
          go_wp2_with fail
          refine HW.out.mono ?_
          rintro e w4 ⟨rfl, h4, hb4⟩
          have HB4 : Hid (Below g w w4) := Lib.hid (HB2.out.trans hb4)
          have H4 := Lib.hid h4
          clear h4 hb4 HW
          go_wp2_with fail
          go_roundw
          case rel => exact ⟨p, by omega, rfl, by rw [HDR.out]; exact H4.out, by rw [HDR.out]; exact HLE2.out, HB4.out⟩
          case measure => simp [intOf]
end Go.Proofs.YtiklbannoinioaaDoor
