/- The document's Number: the decimal text of an int. · strings.Builder's copyCheck and WriteString at this program. · The document's Show: a tree as a text. -/
import Derived.Test.YtiklbannoinioaaDoorQ4
import Derived.Laws.IdiomStrings
import Derived.Lib.ItoaMem
import Derived.Test.YtiklbannoinioaaDoorQ25
import Derived.Shelf.Strings.Builder1
namespace Go.Proofs.YtiklbannoinioaaDoor
open Go.RowKit BigFrame
set_option linter.unusedVariables false
set_option linter.unusedSimpArgs false
set_option maxRecDepth 100000

def bs (l : List UInt8) : Value := .string ⟨l.toArray⟩
def dig (u : Nat) : UInt8 := UInt8.ofNat (48 + u % 10)
theorem dig_nat (u : Nat) : ((dig u).toNat : Int) = 48 + ((u % 10 : Nat) : Int) := by
  have h : u % 10 < 10 := Nat.mod_lt _ (by decide)
  unfold dig
  rw [UInt8.toNat_ofNat']
  omega
theorem conv1 (w : World) (x : Int) (u : Nat) (hx : x = ((dig u).toNat : Int)) :
    (convert 64 9 (.slice (some ⟨w.heap.size, 0, none⟩) 1 1)).run Tryd.prog (w.alloc (.cells #[.int .u8 x] 5)) = .ok (.string ⟨[dig u].toArray⟩) (w.alloc (.cells #[.int .u8 x] 5)) := by
  subst hx
  refine run_convert_bytes_back (P := Tryd.prog) _ 64 9 5 _ 1 [dig u] Tryd.underlying64 Tryd.underlying5 Tryd.underlying9 (fun j hj => ?_)
  have : j = 0 := by simp at hj; omega
  subst this
  simp [Addr.add]
theorem decD (u : Nat) (h : ¬ u < 10) : Lib.decDigits u = Lib.decDigits (u / 10) ++ [dig u] := by rw [Lib.decDigits, dif_neg h]; rfl
theorem dec1 (u : Nat) (h : u < 10) : Lib.decDigits u = [dig u] := by rw [Lib.decDigits, dif_pos h]; unfold dig; rw [Nat.mod_eq_of_lt h]

theorem ba_app (a b : List UInt8) : (ByteArray.mk a.toArray ++ ByteArray.mk b.toArray) = ByteArray.mk (a ++ b).toArray := by
  apply ByteArray.ext
  rw [ByteArray.data_append]
  simp
set_option maxHeartbeats 4000000 in
theorem number_pos : ∀ (N u : Nat), u ≤ N → u ≤ 9223372036854775807 → ∀ (w : World),
    Calls Tryd.prog 12 #[.int .i64 (u : Int)] w fun e w' => e = .returned (bs (Lib.decDigits u)) ∧ Below w.heap.size w w' := by
  intro N
  induction N with
  | zero =>
    intro u hu h1 w
    obtain rfl : u = 0 := by omega
    have HC := conv1 w 48 0 (by decide)
    go_enter Tryd.func12, Tryd.ntmps12
    go_wp2_with fail
    go_ret
    exact ⟨by rw [dec1 0 (by decide)]; rfl, (Below.refl _ _).alloc (Nat.le_refl _) _⟩
  | succ N ih =>
    intro u hu h1 w
    by_cases hd : u < 10
    · as_aux_lemma =>
        have d1 : decide (u < 10) = true := decide_eq_true hd
        have HC := conv1 w (48 + (u : Int)) u (by rw [dig_nat, Nat.mod_eq_of_lt hd])
        have HE := Lib.hid (dec1 u hd)
        go_enter Tryd.func12, Tryd.ntmps12
        go_wp2_with fail
        go_ret
        exact ⟨by rw [HE.out]; rfl, (Below.refl _ _).alloc (Nat.le_refl _) _⟩
    · as_aux_lemma =>
        have d1 : decide (u < 10) = false := decide_eq_false hd
        have hcall := ih (u / 10) (by omega) (by omega) w
        rw [show ((u / 10 : Nat) : Int) = (u : Int) / 10 from Int.natCast_ediv u 10] at hcall
        have HE := Lib.hid (decD u hd)
        have hx : 48 + (u : Int) % 10 = ((dig u).toNat : Int) := by rw [dig_nat, Int.natCast_emod]; rfl
        have HX := Lib.hid hx
        have hm : (u : Int) % 10 < 10 := Int.emod_lt_of_pos _ (by decide)
        have hm0 : 0 ≤ (u : Int) % 10 := Int.emod_nonneg _ (by decide)
        have HH := Lib.hid hcall
        clear ih hcall hx
        go_enter Tryd.func12, Tryd.ntmps12
        go_wp2_with fail
        refine HH.out.mono ?_
        rintro e w5 ⟨rfl, hb5⟩
        have HC := conv1 w5 (48 + (u : Int) % 10) u HX.out
        have HB5 := Lib.hid hb5
        clear hb5
        have hcl := decDigits_len 18 (u / 10) (by omega)
        generalize Lib.decDigits (u / 10) = hi at *
        unfold bs
        have hcat : ¬ 9223372036854775807 < hi.length + 1 := by omega
        go_wp2_with fail
        go_ret
        exact ⟨by rw [HE.out]; exact congrArg (fun z => Ending.returned (.string z)) (ba_app hi [dig u]), (HB5.out.alloc HB5.out.size _)⟩

set_option maxHeartbeats 4000000 in
theorem number_neg (u : Nat) (h0 : 1 ≤ u) (h1 : u ≤ 9223372036854775808) (w : World) :
    Calls Tryd.prog 12 #[.int .i64 (-(u : Int))] w fun e w' => e = .returned (bs (45 :: Lib.decDigits u)) ∧ Below w.heap.size w w' := by
  have hcall := number_pos (u / 10) (u / 10) (Nat.le_refl _) (by omega) w
  obtain ⟨n, hn⟩ : ∃ n : Int, n = -(u : Int) := ⟨_, rfl⟩
  obtain ⟨q, hq⟩ : ∃ q : Nat, q = u / 10 := ⟨_, rfl⟩
  have e1 : n.tdiv 10 = -(q : Int) := by rw [hn, Int.neg_tdiv, hq]; rfl
  have e2 : n.tmod 10 = -((u % 10 : Nat) : Int) := by rw [hn, Int.neg_tmod]; rfl
  have hx : 48 + ((u % 10 : Nat) : Int) = ((dig u).toNat : Int) := by rw [dig_nat]
  have hm : u % 10 < 10 := Nat.mod_lt _ (by decide)
  have hd0 : decide (n < 0) = true := decide_eq_true (by omega)
  have hb1 : -9223372036854775808 ≤ n := by omega
  have hb2 : n < 0 := by omega
  have ew1 : wrap64 (-(q : Int)) = -(q : Int) := by unfold wrap64; omega
  have ew2 : wrap64 (q : Int) = (q : Int) := by unfold wrap64; omega
  have hcl := decDigits_len 18 q (by omega)
  rw [← hn]
  have HE : Hid (45 :: Lib.decDigits u = if u < 10 then [45, dig u] else [45] ++ Lib.decDigits (u / 10) ++ [dig u]) := Lib.hid (by by_cases q : u < 10; rw [if_pos q, dec1 u q]; rw [if_neg q, decD u q]; rfl)
  rw [← hq] at hcall HE
  have HH := Lib.hid hcall; have HX := Lib.hid hx; have HN := Lib.hid hn; have HQ := Lib.hid hq
  clear hcall hx hn hq
  generalize Lib.decDigits q = hi at *
  generalize 45 :: Lib.decDigits u = lo at *
  go_enter Tryd.func12, Tryd.ntmps12
  go_wp2_with fail
  refine HH.out.mono ?_
  rintro e w5 ⟨rfl, hb5⟩
  have HC := conv1 w5 (48 + (u : Int) % 10) u (by have := HX.out; rw [Int.natCast_emod] at this; exact this)
  have HB5 := Lib.hid hb5
  clear hb5
  unfold bs
  by_cases h10 : u < 10
  · as_aux_lemma =>
      have d2 : decide (-10 < n) = true := decide_eq_true (by rw [HN.out]; omega)
      have HE2 : Hid (lo = [45, dig u]) := Lib.hid (by rw [HE.out, if_pos h10])
      clear HE h10
      go_wp2_with fail
      go_ret
      exact ⟨by rw [HE2.out]; exact congrArg (fun z => Ending.returned (.string z)) ((congrArg (· ++ ByteArray.mk #[dig u]) (ba_app [45] [])).trans (ba_app [45] [dig u])), (HB5.out.alloc HB5.out.size _)⟩
  · as_aux_lemma =>
      have d2 : decide (-10 < n) = false := decide_eq_false (by rw [HN.out]; omega)
      have HE2 : Hid (lo = [45] ++ hi ++ [dig u]) := Lib.hid (by rw [HE.out, if_neg h10])
      have hcat : ¬ 9223372036854775807 < 1 + hi.length := by omega
      have hcat2 : ¬ 9223372036854775807 < 1 + hi.length + 1 := by omega
      clear HE h10
      go_wp2_with fail
      go_ret
      exact ⟨by rw [HE2.out]; exact congrArg (fun z => Ending.returned (.string z)) ((congrArg (· ++ ByteArray.mk #[dig u]) (ba_app [45] hi)).trans (ba_app ([45] ++ hi) [dig u])), (HB5.out.alloc HB5.out.size _)⟩

theorem number_any (n : Int) (h0 : -9223372036854775808 ≤ n) (h1 : n ≤ 9223372036854775807) (w : World) :
    Calls Tryd.prog 12 #[.int .i64 n] w fun e w' => e = .returned (bs (Lib.itoa n)) ∧ Below w.heap.size w w' := by
  by_cases h : 0 ≤ n
  · obtain ⟨u, rfl⟩ := Int.eq_ofNat_of_zero_le h
    rw [Lib.itoa_nonneg]
    exact number_pos u u (Nat.le_refl _) (by omega) w
  · obtain ⟨u, hu⟩ := Int.eq_ofNat_of_zero_le (show 0 ≤ -n by omega)
    obtain rfl : n = -(u : Int) := by omega
    rw [Lib.itoa_neg u (by omega)]
    exact number_neg u (by omega) (by omega) w
end Go.Proofs.YtiklbannoinioaaDoor
namespace Go.Proofs.YtiklbannoinioaaDoor
open Go.RowKit BigFrame
set_option linter.unusedVariables false
set_option linter.unusedSimpArgs false
set_option maxRecDepth 100000

set_option maxHeartbeats 4000000 in
theorem copy_used (b : Nat) (w : World) (h0 : w.cell? ⟨b, 0, none⟩ = some (.pointer (some ⟨b, 0, none⟩))) :
    Calls Tryd.prog 42 #[.pointer (some ⟨b, 0, none⟩)] w fun e w' => e = .returned (.tuple #[]) ∧ w' = w := by
  obtain ⟨j, hj, _⟩ := Option.map_eq_some_iff.1 (show (Tryd.prog.info? 66).map (·.size) = some 2 by kernel_rfl)
  have hn := Lib.run_neq_ptr_same (P := Tryd.prog) (tp := 63) w ⟨b, 0, none⟩ Tryd.underlying63 hj
  go_enter Tryd.func42, Tryd.ntmps42
  go_wp2
  go_end0
  exact ⟨rfl, rfl⟩
set_option maxHeartbeats 4000000 in
theorem copy_fresh (b : Nat) (w : World) (h0 : w.cell? ⟨b, 0, none⟩ = some (.pointer none)) (hsh : w.shape? b = some (66, 2)) (hfz : w.frozen? ⟨b, 0, none⟩ = false) :
    Calls Tryd.prog 42 #[.pointer (some ⟨b, 0, none⟩)] w fun e w' => e = .returned (.tuple #[]) ∧ w' = w.setCell ⟨b, 0, none⟩ (.pointer (some ⟨b, 0, none⟩)) := by
  obtain ⟨j, hj, hjs⟩ := Option.map_eq_some_iff.1 (show (Tryd.prog.info? 66).map (·.size) = some 2 by kernel_rfl)
  have hu := Lib.run_to_unsafe (P := Tryd.prog) w ⟨b, 0, none⟩ Tryd.underlying63 Tryd.underlying112 hj (by rw [hjs]; decide) hsh (Nat.zero_lt_succ 1)
  have hv := Lib.run_from_unsafe (P := Tryd.prog) w ⟨b, 0, none⟩ Tryd.underlying112 Tryd.underlying63 hj hsh (by kernel_rfl)
  go_enter Tryd.func42, Tryd.ntmps42
  go_wp2_with fail
  rw [run_callFunc_extern Tryd.func48 (by kernel_rfl) (by kernel_rfl) (by kernel_rfl) (e := Extern.AbiNoEscape.same) (by kernel_rfl)]
  rw [Lib.run_noEscape]
  simp only [Result.andThen]
  rw [Oper.upon_value]
  go_wp2
  go_end0
  exact ⟨rfl, rfl⟩
/-- A builder of the program's. -/
abbrev Bld (B b : Nat) (l : List UInt8) (w : World) : Prop := Lib.IsBuilder 66 5 B b (Lib.byteCells l) w
theorem copy_any (B b : Nat) (bs : List Value) (w : World) (h : Lib.IsBuilder 66 5 B b bs w) :
    Calls Tryd.prog 42 #[.pointer (some ⟨b, 0, none⟩)] w fun e w' => e = .returned (.tuple #[]) ∧ (Lib.BuilderAt 66 5 B b (.pointer (some ⟨b, 0, none⟩)) bs w' ∧ Below B w w') := by
  rcases h with h | h
  · refine (copy_fresh b w h.cell0 h.shape h.frozen0).mono ?_
    rintro e w' ⟨rfl, rfl⟩
    exact ⟨rfl, h.used _, (Below.refl B w).setCell (p := ⟨b, 0, none⟩) h.1 _⟩
  · refine (copy_used b w h.cell0).mono ?_
    rintro e w' ⟨rfl, rfl⟩
    exact ⟨rfl, h, Below.refl B _⟩
theorem strCells_bytes (l : List UInt8) : Lib.strCells ⟨l.toArray⟩ = Lib.byteCells l := by
  simp [Lib.strCells, Lib.byteCells]
set_option maxHeartbeats 4000000 in
theorem write_any (B b : Nat) (l m : List UInt8) (w : World) (h : Bld B b l w) (hlen : l.length + m.length ≤ 140737488355328) (hBw : B ≤ w.heap.size) :
    Calls Tryd.prog 30 #[.pointer (some ⟨b, 0, none⟩), bs m] w fun e w' => e = .returned (.tuple #[.int .i64 m.length, .nilIface]) ∧ (Bld B b (l ++ m) w' ∧ Below B w w') := by
  obtain ⟨i0, hi, hz0, hz1, hz2⟩ := info_parts (show (Tryd.prog.info? 5).map (fun i => (i.zero, i.size, i.bytes)) = some (some (.int .u8 0), 1, 1) by kernel_rfl)
  have hll : (Lib.byteCells l).length = l.length := Lib.byteCells_length l
  go_enter Tryd.func30, Tryd.ntmps30
  go_wp2_with fail
  refine (copy_any B b _ _ h).mono ?_
  rintro e w1 ⟨rfl, h1, hb1⟩
  obtain ⟨hB, v, hbk, hown, hne⟩ := h1
  have c0 : w1.cell? ⟨b, 0, none⟩ = some (.pointer (some ⟨b, 0, none⟩)) := by rw [Lib.cell_of_heap hbk]; rfl
  have c1 : w1.cell? ⟨b, 1, none⟩ = some v := by rw [Lib.cell_of_heap hbk]; rfl
  rw [hll] at hown
  unfold bs
  clear hll
  go_wp2_with (at_builtin; refine Lib.wpList_append_own_string _ rfl _ _ 64 9 rfl B 5 i0 Tryd.underlying64 Tryd.underlying9 hi hz0 hz1 hz2 _ _ _ rfl hown ⟨m.toArray⟩ rfl ?c3 ?c4 ?c5 ?_)
  case c3 => show l.length + m.toArray.size ≤ _; unfold maxLen; simp; omega
  case c4 => show l.length + m.toArray.size ≤ _; simp; omega
  case c5 => have := hb1.size; omega
  intro v' w2 hown' hgrow _
  have hlt : b < w1.heap.size := by
    rcases Nat.lt_or_ge b w1.heap.size with h' | h'
    · exact h'
    · simp [Array.getElem?_eq_none h'] at hbk
  have hb2 : w2.heap[b]? = some (.cells #[.pointer (some ⟨b, 0, none⟩), v] 66 (0, 0)) := by
    rw [hgrow.block b hlt (fun e => hne e.symm)]
    exact hbk
  have d0 : w2.cell? ⟨b, 0, none⟩ = some (.pointer (some ⟨b, 0, none⟩)) := by rw [Lib.cell_of_heap hb2]; rfl
  have d1 : w2.cell? ⟨b, 1, none⟩ = some v := by rw [Lib.cell_of_heap hb2]; rfl
  have f1 : w2.frozen? ⟨b, 1, none⟩ = false := Lib.frozen_of_heap hb2 1
  obtain ⟨ao, n', cap, rfl⟩ : ∃ ao n' cap, v' = .slice ao n' cap := by
    rcases hown'.2 with ⟨hv, _⟩ | ⟨g, cap, cur, hv, _⟩
    · exact ⟨_, _, _, hv⟩
    · exact ⟨_, _, _, hv⟩
  go_wp2
  go_ret2
  refine ⟨rfl, .inr ?_, ?_⟩
  · refine Lib.BuilderAt.put (T := 66) (e := 5) hB hb2 (bs' := Lib.byteCells (l ++ m)) ?_ (by decide)
    have e1 : (Lib.byteCells (l ++ m)).length = l.length + m.toArray.size := by rw [Lib.byteCells_length]; simp
    have e2 : Lib.byteCells (l ++ m) = Lib.byteCells l ++ Lib.strCells ⟨m.toArray⟩ := by rw [strCells_bytes]; simp [Lib.byteCells]
    rw [e1, e2]
    exact hown'
  · exact (hb1.grown hgrow (by have := hb1.size; omega) (fun k hk => (hown.lt k hk).1)).setCell (p := ⟨b, 1, none⟩) hB _
end Go.Proofs.YtiklbannoinioaaDoor
namespace Go.Proofs.YtiklbannoinioaaDoor
open Go.RowKit BigFrame
set_option linter.unusedVariables false
set_option linter.unusedSimpArgs false
set_option maxRecDepth 100000

theorem showL_take {ks : List Tr} {j : Nat} {k : Tr} (h : ks[j]? = some k) : showL (ks.take (j + 1)) = showL (ks.take j) ++ [32] ++ showT k := by
  rw [List.take_add_one, h]
  simp only [Option.toList_some]
  rw [showL_append, showL, showL]
  simp
theorem szL_take (ks : List Tr) (j : Nat) : szL (ks.take j) ≤ szL ks := by
  have := szL_append (ks.take j) (ks.drop j)
  rw [List.take_append_drop] at this
  omega
end Go.Proofs.YtiklbannoinioaaDoor
