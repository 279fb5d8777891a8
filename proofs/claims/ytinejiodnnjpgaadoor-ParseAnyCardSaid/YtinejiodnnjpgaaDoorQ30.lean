/- strings.Builder's copyCheck and WriteString at this program. · The program's show and Show: a tree as a text. -/
import Derived.Test.YtinejiodnnjpgaaDoorQ29
import Derived.Test.YtinejiodnnjpgaaDoorQ27
import Derived.Shelf.Strings.Builder1
namespace Go.Proofs.YtinejiodnnjpgaaDoor
open Go.RowKit BigFrame
set_option linter.unusedVariables false
set_option linter.unusedSimpArgs false
set_option maxRecDepth 100000

set_option maxHeartbeats 4000000 in
theorem copy_used (b : Nat) (w : World) (h0 : w.cell? ⟨b, 0, none⟩ = some (.pointer (some ⟨b, 0, none⟩))) :
    Calls Tryd.prog 61 #[.pointer (some ⟨b, 0, none⟩)] w fun e w' => e = .returned (.tuple #[]) ∧ w' = w := by
  obtain ⟨j, hj, _⟩ := Option.map_eq_some_iff.1 (show (Tryd.prog.info? 75).map (·.size) = some 2 by kernel_rfl)
  have hn := Lib.run_neq_ptr_same (P := Tryd.prog) (tp := 72) w ⟨b, 0, none⟩ Tryd.underlying72 hj
  go_enter Tryd.func61, Tryd.ntmps61
  go_wp2
  go_end0
  exact ⟨rfl, rfl⟩
set_option maxHeartbeats 4000000 in
theorem copy_fresh (b : Nat) (w : World) (h0 : w.cell? ⟨b, 0, none⟩ = some (.pointer none)) (hsh : w.shape? b = some (75, 2)) (hfz : w.frozen? ⟨b, 0, none⟩ = false) :
    Calls Tryd.prog 61 #[.pointer (some ⟨b, 0, none⟩)] w fun e w' => e = .returned (.tuple #[]) ∧ w' = w.setCell ⟨b, 0, none⟩ (.pointer (some ⟨b, 0, none⟩)) := by
  obtain ⟨j, hj, hjs⟩ := Option.map_eq_some_iff.1 (show (Tryd.prog.info? 75).map (·.size) = some 2 by kernel_rfl)
  have hu := Lib.run_to_unsafe (P := Tryd.prog) w ⟨b, 0, none⟩ Tryd.underlying72 Tryd.underlying102 hj (by rw [hjs]; decide) hsh (Nat.zero_lt_succ 1)
  have hv := Lib.run_from_unsafe (P := Tryd.prog) w ⟨b, 0, none⟩ Tryd.underlying102 Tryd.underlying72 hj hsh (by kernel_rfl)
  go_enter Tryd.func61, Tryd.ntmps61
  go_wp2_with fail
  rw [run_callFunc_extern Tryd.func63 (by kernel_rfl) (by kernel_rfl) (by kernel_rfl) (e := Extern.AbiNoEscape.same) (by kernel_rfl)]
  rw [Lib.run_noEscape]
  simp only [Result.andThen]
  rw [Oper.upon_value]
  go_wp2
  go_end0
  exact ⟨rfl, rfl⟩
/-- A builder of the program's. -/
abbrev Bld (B b : Nat) (l : List UInt8) (w : World) : Prop := Lib.IsBuilder 75 5 B b (Lib.byteCells l) w
theorem copy_any (B b : Nat) (bs : List Value) (w : World) (h : Lib.IsBuilder 75 5 B b bs w) :
    Calls Tryd.prog 61 #[.pointer (some ⟨b, 0, none⟩)] w fun e w' => e = .returned (.tuple #[]) ∧ (Lib.BuilderAt 75 5 B b (.pointer (some ⟨b, 0, none⟩)) bs w' ∧ Below B w w') := by
  rcases h with h | h
  · refine (copy_fresh b w h.cell0 h.shape h.frozen0).mono ?_
    rintro e w' ⟨rfl, rfl⟩
    exact ⟨rfl, h.used _, (Below.refl B w).setCell (p := ⟨b, 0, none⟩) h.1 _⟩
  · refine (copy_used b w h.cell0).mono ?_
    rintro e w' ⟨rfl, rfl⟩
    exact ⟨rfl, h, Below.refl B _⟩
theorem strCells_bytes (l : List UInt8) : Lib.strCells ⟨l.toArray⟩ = Lib.byteCells l := by
  simp [Lib.strCells, Lib.byteCells]
set_option maxHeartbeats 4000000 in
theorem write_any (B b : Nat) (l m : List UInt8) (w : World) (h : Bld B b l w) (hlen : l.length + m.length ≤ 140737488355328) (hBw : B ≤ w.heap.size) :
    Calls Tryd.prog 50 #[.pointer (some ⟨b, 0, none⟩), bs m] w fun e w' => e = .returned (.tuple #[.int .i64 m.length, .nilIface]) ∧ (Bld B b (l ++ m) w' ∧ Below B w w') := by
  obtain ⟨i0, hi, hz0, hz1, hz2⟩ := info_parts (show (Tryd.prog.info? 5).map (fun i => (i.zero, i.size, i.bytes)) = some (some (.int .u8 0), 1, 1) by kernel_rfl)
  have hll : (Lib.byteCells l).length = l.length := Lib.byteCells_length l
  go_enter Tryd.func50, Tryd.ntmps50
  go_wp2_with fail
  refine (copy_any B b _ _ h).mono ?_
  rintro e w1 ⟨rfl, h1, hb1⟩
  obtain ⟨hB, v, hbk, hown, hne⟩ := h1
  have c0 : w1.cell? ⟨b, 0, none⟩ = some (.pointer (some ⟨b, 0, none⟩)) := by rw [Lib.cell_of_heap hbk]; rfl
  have c1 : w1.cell? ⟨b, 1, none⟩ = some v := by rw [Lib.cell_of_heap hbk]; rfl
  rw [hll] at hown
  unfold bs
  clear hll
  go_wp2_with (at_builtin; refine Lib.wpList_append_own_string _ rfl _ _ 73 9 rfl B 5 i0 Tryd.underlying73 Tryd.underlying9 hi hz0 hz1 hz2 _ _ _ rfl hown ⟨m.toArray⟩ rfl ?c3 ?c4 ?c5 ?_)
  case c3 => show l.length + m.toArray.size ≤ _; unfold maxLen; simp; omega
  case c4 => show l.length + m.toArray.size ≤ _; simp; omega
  case c5 => have := hb1.size; omega
  intro v' w2 hown' hgrow _
  have hlt : b < w1.heap.size := by
    rcases Nat.lt_or_ge b w1.heap.size with h' | h'
    · exact h'
    · simp [Array.getElem?_eq_none h'] at hbk
  have hb2 : w2.heap[b]? = some (.cells #[.pointer (some ⟨b, 0, none⟩), v] 75 (0, 0)) := by
    rw [hgrow.block b hlt (fun e => hne e.symm)]
    exact hbk
  have d0 : w2.cell? ⟨b, 0, none⟩ = some (.pointer (some ⟨b, 0, none⟩)) := by rw [Lib.cell_of_heap hb2]; rfl
  have d1 : w2.cell? ⟨b, 1, none⟩ = some v := by rw [Lib.cell_of_heap hb2]; rfl
  have f1 : w2.frozen? ⟨b, 1, none⟩ = false := Lib.frozen_of_heap hb2 1
  obtain ⟨ao, n', cap, rfl⟩ : ∃ ao n' cap, v' = .slice ao n' cap := by
    rcases hown'.2 with ⟨hv, _⟩ | ⟨g, cap, cur, hv, _⟩
    · exact ⟨_, _, _, hv⟩
    · exact ⟨_, _, _, hv⟩
  go_wp2
  go_ret2
  refine ⟨rfl, .inr ?_, ?_⟩
  · refine Lib.BuilderAt.put (T := 75) (e := 5) hB hb2 (bs' := Lib.byteCells (l ++ m)) ?_ (by decide)
    have e1 : (Lib.byteCells (l ++ m)).length = l.length + m.toArray.size := by rw [Lib.byteCells_length]; simp
    have e2 : Lib.byteCells (l ++ m) = Lib.byteCells l ++ Lib.strCells ⟨m.toArray⟩ := by rw [strCells_bytes]; simp [Lib.byteCells]
    rw [e1, e2]
    exact hown'
  · exact (hb1.grown hgrow (by have := hb1.size; omega) (fun k hk => (hown.lt k hk).1)).setCell (p := ⟨b, 1, none⟩) hB _
end Go.Proofs.YtinejiodnnjpgaaDoor
namespace Go.Proofs.YtinejiodnnjpgaaDoor
open Go.RowKit BigFrame
set_option linter.unusedVariables false
set_option linter.unusedSimpArgs false
set_option maxRecDepth 100000

abbrev Pow (w : World) : Prop := Lib.TabIs Tryd.prog w "internal/strconv.uint64pow10" .u64 Lib.pow10Tab
theorem Pow.below {B : Nat} {w w' : World} (h : Pow w) (hB : 8 < B) (hb : Below B w w') : Pow w' := by
  have hg : Tryd.prog.globalNamed "internal/strconv.uint64pow10" = some 8 := by kernel_rfl
  unfold Pow Lib.TabIs World.var? at h ⊢
  rw [hg] at h ⊢
  simp only [Option.bind_some] at h ⊢
  rw [hb.block _ hB]
  exact h
theorem bel_grow (w : World) (k : Nat) (os : Array Obj) : Below w.heap.size w (Sort.grow (w.drewN k) os) := by
  refine ⟨rfl, rfl, rfl, ?_, fun b hb => ?_⟩
  · show w.heap.size ≤ (w.heap ++ os).size
    simp
  · show (w.heap ++ os)[b]? = w.heap[b]?
    exact Array.getElem?_append_left hb
theorem own_bel {w w' : World} {base : Nat} {e : TypeId} {size : Nat} {v : Value} {n : Nat} {xs : List Value} (h : w.ownsRow base e size v n xs) (hb : Below w.heap.size w w') : w'.ownsRow base e size v n xs := by
  refine ⟨h.1, ?_⟩
  rcases h.2 with hn | ⟨g, cap, cur, rfl, hbg, hg, rest⟩
  · exact .inl hn
  · refine .inr ⟨g, cap, cur, rfl, hbg, ?_, rest⟩
    rw [hb.block g (Array.getElem?_eq_some_iff.1 hg).1]
    exact hg
theorem BldAt_bel {T e : TypeId} {B b : Nat} {p : Value} {l : List Value} {w w' : World} (h : Lib.BuilderAt T e B b p l w) (hb : Below w.heap.size w w') : Lib.BuilderAt T e B b p l w' := by
  have hlt := h.lt
  obtain ⟨h1, v, h2, h3, h4⟩ := h
  exact ⟨h1, v, by rw [hb.block b hlt]; exact h2, own_bel h3 hb, h4⟩
theorem Bld.bel {B b : Nat} {l : List UInt8} {w w' : World} (h : Bld B b l w) (hb : Below w.heap.size w w') : Bld B b l w' := by
  rcases h with h | h
  · exact .inl (BldAt_bel h hb)
  · exact .inr (BldAt_bel h hb)
theorem itoa_any (n : Int) (h0 : -9223372036854775808 ≤ n) (h1 : n ≤ 9223372036854775807) (w : World) (hp : Pow w) :
    Calls Tryd.prog 51 #[.int .i64 n] w fun e w' => e = .returned (bs (Lib.itoa n)) ∧ Below w.heap.size w w' := by
  refine (y_strconv_Itoa n h0 h1 w hp).mono ?_
  rintro e w' ⟨rfl, k, os, rfl⟩
  exact ⟨rfl, bel_grow w k os⟩

set_option maxHeartbeats 4000000 in
theorem show_nil (B b : Nat) (l : List UInt8) (w : World) (h : Bld B b l w) (hl : l.length ≤ 1000000000) (hB : B ≤ w.heap.size) :
    Calls Tryd.prog 30 #[.pointer (some ⟨b, 0, none⟩), .pointer none] w fun e w' => e = .returned (.tuple #[]) ∧ Bld B b (l ++ showT .nil) w' ∧ Below B w w' := by
  have HW := Lib.hid (write_any B b l [40, 41] w h (by simp; omega) hB)
  have HS : Hid (showT .nil = [40, 41]) := Lib.hid (by rw [showT])
  clear h
  unfold bs at HW
  go_enter Tryd.func30, Tryd.ntmps30
  go_wp2_with fail
  refine HW.out.mono ?_
  rintro e w5 ⟨rfl, h5, hb5⟩
  go_wp2_with fail
  (try simp only [Exit.inBlock, Exit.then]); refine bodyPost_ret (results_none rfl _ _ _) rfl ?_
  exact ⟨rfl, by rw [HS.out]; exact h5, hb5⟩

set_option maxHeartbeats 4000000 in
theorem show_node (B b : Nat) (hgl : 8 < B) (N : Nat) (hN : N ≤ 100000) (ih : ∀ (t : Tr), szT t ≤ N → IntT t → ∀ (v : Value) (l : List UInt8) (w : World), Bld B b l w → l.length + 25 * szT t ≤ 1000000000 → B ≤ w.heap.size → Pow w → TrB w B v t →
    Calls Tryd.prog 30 #[.pointer (some ⟨b, 0, none⟩), v] w fun e w' => e = .returned (.tuple #[]) ∧ Bld B b (l ++ showT t) w' ∧ Below B w w')
    (p tok : Int) (ks : List Tr) (h : 1 + szL ks ≤ N + 1) (hi : IntT (.node p tok ks)) (v : Value) (l : List UInt8) (w : World) (hbl : Bld B b l w) (hl : l.length + 25 * (1 + szL ks) ≤ 1000000000) (hB : B ≤ w.heap.size) (hp : Pow w) (hT : TrB w B v (.node p tok ks)) :
    Calls Tryd.prog 30 #[.pointer (some ⟨b, 0, none⟩), v] w fun e w' => e = .returned (.tuple #[]) ∧ Bld B b (l ++ showT (.node p tok ks)) w' ∧ Below B w w' := by
  obtain ⟨a, A2, c2, rfl, hb, zp, zt, zk, hk1, hk2, hks⟩ := hT.node_inv
  cases hi
  rename_i hp1 hp2 ht1 ht2 hik
  have HIH := Lib.hid ih; have HSZ := Lib.hid h; have HKS := Lib.hid hks; have HIK := Lib.hid hik; have HT := Lib.hid hT; have HP := Lib.hid hp; have HBL := Lib.hid hbl; have HL := Lib.hid hl
  have hkl : ks.length ≤ N := by have := szL_len ks; omega
  unfold maxLen at hk2
  clear ih h hks hik hT hp hbl
  by_cases q1 : p < 0
  · as_aux_lemma =>
      have d1 : decide (p < 0) = true := decide_eq_true q1
      have HN := Lib.hid (itoa_any tok ht1 ht2 w HP.out)
      have HS : Hid (showT (.node p tok ks) = Lib.itoa tok) := Lib.hid (by rw [showT, if_pos q1])
      have hil := itoa_len ht1 ht2
      generalize Lib.itoa tok = it at *
      clear q1
      go_enter Tryd.func30, Tryd.ntmps30
      go_wp2_with fail
      refine HN.out.mono ?_
      rintro e w5 ⟨rfl, hb5⟩
      have HW := Lib.hid (write_any B b l it w5 (HBL.out.bel hb5) (by omega) (Nat.le_trans hB hb5.size))
      have HB5 := Lib.hid hb5
      clear hb5
      unfold bs at HW ⊢
      go_wp2_with fail
      refine HW.out.mono ?_
      rintro e w6 ⟨rfl, h6, hb6⟩
      go_wp2_with fail
      (try simp only [Exit.inBlock, Exit.then]); refine bodyPost_ret (results_none rfl _ _ _) rfl ?_
      exact ⟨rfl, by rw [HS.out]; exact h6, (HB5.out.mono hB).trans hb6⟩
  · as_aux_lemma =>
      have d1 : decide (p < 0) = false := decide_eq_false q1
      have HN := Lib.hid (itoa_any p hp1 hp2 w HP.out)
      have HS : Hid (showT (.node p tok ks) = [40] ++ Lib.itoa p ++ showL ks ++ [41]) := Lib.hid (by rw [showT, if_neg q1])
      have hil := itoa_len hp1 hp2
      generalize Lib.itoa p = ip at *
      have hc1 : ¬ 9223372036854775807 < 1 + ip.length := by omega
      clear q1
      go_enter Tryd.func30, Tryd.ntmps30
      go_wp2_with fail
      refine HN.out.mono ?_
      rintro e w5 ⟨rfl, hb5⟩
      have HW := Lib.hid (write_any B b l ([40] ++ ip) w5 (HBL.out.bel hb5) (by simp; omega) (Nat.le_trans hB hb5.size))
      have HB5 := Lib.hid hb5
      clear hb5
      unfold bs at HW ⊢
      rw [← ba_app] at HW
      go_wp2_with fail
      refine HW.out.mono ?_
      rintro e w6 ⟨rfl, h6, hb6⟩
      have HB6 : Hid (Below B w w6) := Lib.hid ((HB5.out.mono hB).trans hb6)
      have H6 := Lib.hid h6
      have zk6 := (HB6.out.cell (p := ⟨a, 2, none⟩) hb).trans zk
      clear h6 hb6
      go_wp2_with fail
      have hsl := (showL_len ks HIK.out)
      have HTL := Lib.hid (fun j => (szL_take ks j))
      go_loopw [37] (fun i wr => ∃ (j : Nat), j ≤ ks.length ∧ i = .int .i64 (j : Int) ∧ Hid (Bld B b (l ++ ([40] ++ ip) ++ showL (ks.take j)) wr) ∧ Hid (Below B w wr)) (fun i _ => ks.length - (intOf i).toNat)
      case atStart => exact ⟨0, Nat.zero_le _, rfl, Lib.hid (by rw [List.take_zero, showL, List.append_nil]; exact H6.out), HB6⟩
      case round =>
        as_aux_lemma =>
          obtain ⟨j, hj, rfl, HD, HB⟩ := hrel
          have hLl : (l ++ ([40] ++ ip) ++ showL (ks.take j)).length ≤ l.length + 21 + 25 * szL ks := by
            have h1 := showL_len (ks.take j) (fun k hk => HIK.out k (List.mem_of_mem_take hk))
            have h2 := HTL.out j
            simp only [List.length_append, List.length_cons, List.length_nil]
            omega
          by_cases hlt : j < ks.length
          · as_aux_lemma =>
              obtain ⟨k, hkk⟩ : ∃ k, ks[j]? = some k := ⟨ks[j], List.getElem?_eq_getElem hlt⟩
              obtain ⟨kb, ko, rfl, hkb, hkc⟩ := HKS.out (by omega)
              obtain ⟨u, zu, hu⟩ := hkc j k hkk
              have hmem := List.mem_of_getElem? hkk
              have hsz : szT k ≤ N := by
                have h1 := szL_mem hmem
                have h2 := HSZ.out
                omega
              have hsq : szL (ks.take (j + 1)) = szL (ks.take j) + szT k := by
                rw [List.take_add_one, hkk]
                simp only [Option.toList_some]
                rw [szL_append, szL, szL]
                omega
              have hlk : (l ++ ([40] ++ ip) ++ showL (ks.take j)).length + 1 + 25 * szT k ≤ 1000000000 := by
                have h1 := showL_len (ks.take j) (fun k hk => HIK.out k (List.mem_of_mem_take hk))
                have h2 := HTL.out (j + 1)
                simp only [List.length_append, List.length_cons, List.length_nil]
                omega
              obtain ⟨pu, rfl⟩ := hu.ptr
              have zu2 := (HB.out.cell (p := ⟨kb, ko + j, none⟩) hkb).trans zu
              have HU := Lib.hid hu
              have HST := Lib.hid (showL_take hkk)
              have HK := Lib.hid (HIK.out k hmem)
              have HW := Lib.hid (write_any B b _ [32] wr HD.out (by simp only [List.length_cons, List.length_nil]; omega) (Nat.le_trans hB HB.out.size))
              have HLK : Hid ((l ++ ([40] ++ ip) ++ showL (ks.take j) ++ [32]).length + 25 * szT k ≤ 1000000000) := Lib.hid (by rw [List.length_append, List.length_cons, List.length_nil]; omega)
              unfold bs at HW
              clear hkc hu zu zk hmem hsq hlk HKS HSZ HIK HT hkk HTL hLl hsl
              go_wp2_with fail
              refine HW.out.mono ?_
              rintro e w7 ⟨rfl, h7, hb7⟩
              have HB7 : Hid (Below B w w7) := Lib.hid (HB.out.trans hb7)
              have HC := Lib.hid (HIH.out k hsz HK.out (.pointer pu) _ w7 h7 HLK.out (Nat.le_trans hB HB7.out.size) (HP.out.below hgl HB7.out) (TrB.below HU.out HB7.out))
              clear h7 hb7
              go_wp2_with fail
              refine HC.out.mono ?_
              rintro e w8 ⟨rfl, h8, hb8⟩
              have HB8 : Hid (Below B w w8) := Lib.hid (HB7.out.trans hb8)
              have HD8 : Hid (Bld B b (l ++ ([40] ++ ip) ++ showL (ks.take (j + 1))) w8) := Lib.hid (by rw [HST.out]; simpa using h8)
              clear h8 hb8
              go_wp2
              go_roundw
              case rel => exact ⟨j + 1, by omega, by go_num, HD8, HB8⟩
              case measure => simp [intOf]; omega
          · as_aux_lemma =>
              have hje : j = ks.length := by omega
              have HD1 : Hid (Bld B b (l ++ ([40] ++ ip) ++ showL ks) wr) := Lib.hid (by have := HD.out; rw [hje, List.take_length] at this; exact this)
              have HW := Lib.hid (write_any B b _ [41] wr HD1.out (by
                have h1 := showL_len ks HIK.out
                simp only [List.length_append, List.length_cons, List.length_nil]
                omega) (Nat.le_trans hB HB.out.size))
              unfold bs at HW
              clear hje HD zk hLl
              go_wp2_with fail
              refine HW.out.mono ?_
              rintro e w7 ⟨rfl, h7, hb7⟩
              go_wp2_with fail
              go_end0
              exact ⟨rfl, by rw [HS.out]; simpa using h7, HB.out.trans hb7⟩

theorem show_any (B b : Nat) (hgl : 8 < B) : ∀ (N : Nat), N ≤ 100000 → ∀ (t : Tr), szT t ≤ N → IntT t → ∀ (v : Value) (l : List UInt8) (w : World), Bld B b l w → l.length + 25 * szT t ≤ 1000000000 → B ≤ w.heap.size → Pow w → TrB w B v t →
    Calls Tryd.prog 30 #[.pointer (some ⟨b, 0, none⟩), v] w fun e w' => e = .returned (.tuple #[]) ∧ Bld B b (l ++ showT t) w' ∧ Below B w w' := by
  intro N
  induction N with
  | zero => intro _ t h; have := szT_pos t; omega
  | succ N ih =>
    intro hN t h hi v l w hbl hl hB hp hT
    cases t with
    | nil =>
      obtain rfl := hT.nil_inv
      exact show_nil B b l w hbl (by omega) hB
    | node p tok ks =>
      rw [szT] at h hl
      exact show_node B b hgl N (by omega) (ih (by omega)) p tok ks (by omega) hi v l w hbl (by omega) hB hp hT

set_option maxHeartbeats 4000000 in
theorem pshow_any (B : Nat) (hgl : 8 < B) (t : Tr) (ht : szT t ≤ 100000) (hi : IntT t) (v : Value) (w : World) (hB : B ≤ w.heap.size) (hp : Pow w) (hT : TrB w B v t) :
    Calls Tryd.prog 13 #[v] w fun e w' => e = .returned (bs (showT t)) ∧ Below w.heap.size w w' := by
  have HT := Lib.hid hT; have HP := Lib.hid hp
  clear hT hp
  go_enter Tryd.func13, Tryd.ntmps13
  go_wp2_with fail
  have hb1 : Below w.heap.size w (w.alloc (.cells #[.pointer none, .slice none 0 0] 75)) := (Below.refl _ _).alloc (Nat.le_refl _) _
  have hsz : (w.alloc (.cells #[.pointer none, .slice none 0 0] 75)).heap.size = w.heap.size + 1 := by simp
  have hshow := show_any w.heap.size w.heap.size (Nat.lt_of_lt_of_le hgl hB) 100000 (by decide) t ht hi v [] _ (Lib.fresh_isBuilder 75 5 w) (by simp; omega) (by rw [hsz]; omega) (HP.out.below (Nat.lt_of_lt_of_le hgl hB) hb1) (TrB.below (TrB.more HT.out hB) hb1)
  refine hshow.mono ?_
  rintro e w5 ⟨rfl, h5, hb5⟩
  have HB5 : Hid (Below w.heap.size w w5) := Lib.hid (hb1.trans hb5)
  have HS := Lib.hid (y_Builder_String_any w.heap.size w.heap.size (showT t) w5 h5 (by have := HB5.out.size; exact this))
  clear h5 hb5 hshow hsz hb1
  go_wp2_with fail
  refine HS.out.mono ?_
  rintro e w6 ⟨rfl, hb6⟩
  go_wp2_with fail
  go_ret
  exact ⟨rfl, HB5.out.trans hb6⟩
end Go.Proofs.YtinejiodnnjpgaaDoor
