/- strings.Repeat of a zero; the text of the program's whole number. · The program's Count. · Memory: the search's map: from pairs of states to where they were come from. -/
import Derived.Test.YtkcpfpofimkkiaaGreatDoorQ2
import Derived.Test.YtkcpfpofimkkiaaGreatDoorQ34
import Derived.Test.YtkcpfpofimkkiaaGreatDoorQ33
import Derived.Test.YtkcpfpofimkkiaaGreatDoorQ12
import Derived.Test.YtkcpfpofimkkiaaGreatDoorQ27
import Derived.Test.YtkcpfpofimkkiaaGreatDoorQ13
import Derived.Maps.RangeWalk
import Derived.Maps.OwnOps
import Derived.Maps.OwnSet
import Derived.DeepKeys4
import Derived.MapViews
namespace Go.Proofs.YtkcpfpofimkkiaaGreatDoor
open Go.RowKit BigFrame
set_option linter.unusedVariables false
set_option linter.unusedSimpArgs false
set_option maxRecDepth 100000

set_option maxHeartbeats 4000000 in
theorem repeat_zero (c : Nat) (hc : c ≤ 8) (w : World) :
    Calls Tryz.prog 36 #[.string ⟨#[48]⟩, .int .i64 (c : Int)] w fun e w' => e = .returned (.string ⟨(List.replicate c 48).toArray⟩) ∧ w' = w := by
  by_cases h0 : c = 0
  · subst h0
    go_enter Tryz.func36, Tryz.ntmps36
    go_wp2_with fail
    go_ret
    exact ⟨rfl, rfl⟩
  by_cases h1 : c = 1
  · subst h1
    go_enter Tryz.func36, Tryz.ntmps36
    go_wp2_with fail
    go_ret
    exact ⟨rfl, rfl⟩
  by_cases h2 : c = 2
  · subst h2
    have HM := Lib.hid (y_bits_Mul 1 2 (by decide) (by decide) w)
    go_enter Tryz.func36, Tryz.ntmps36
    go_wp2_with fail
    refine HM.out.mono ?_
    rintro e w' ⟨rfl, rfl⟩
    go_wp2_with fail
    refine (y_strings_HasPrefix _ _ _).mono ?_
    rintro e w' ⟨rfl, rfl⟩
    generalize hpx : Lib.hasPrefix _ _ = pb
    have hpy : pb = false := by rw [← hpx]; rfl
    subst hpy; clear hpx
    go_wp2_with fail
    refine (y_strings_HasPrefix _ _ _).mono ?_
    rintro e w' ⟨rfl, rfl⟩
    generalize hpx : Lib.hasPrefix _ _ = pb
    have hpy : pb = false := by rw [← hpx]; rfl
    subst hpy; clear hpx
    go_wp2_with fail
    refine (y_strings_HasPrefix _ _ _).mono ?_
    rintro e w' ⟨rfl, rfl⟩
    generalize hpx : Lib.hasPrefix _ _ = pb
    have hpy : pb = true := by rw [← hpx]; rfl
    subst hpy; clear hpx
    go_wp2_with fail
    go_ret
    exact ⟨rfl, rfl⟩
  by_cases h3 : c = 3
  · subst h3
    have HM := Lib.hid (y_bits_Mul 1 3 (by decide) (by decide) w)
    go_enter Tryz.func36, Tryz.ntmps36
    go_wp2_with fail
    refine HM.out.mono ?_
    rintro e w' ⟨rfl, rfl⟩
    go_wp2_with fail
    refine (y_strings_HasPrefix _ _ _).mono ?_
    rintro e w' ⟨rfl, rfl⟩
    generalize hpx : Lib.hasPrefix _ _ = pb
    have hpy : pb = false := by rw [← hpx]; rfl
    subst hpy; clear hpx
    go_wp2_with fail
    refine (y_strings_HasPrefix _ _ _).mono ?_
    rintro e w' ⟨rfl, rfl⟩
    generalize hpx : Lib.hasPrefix _ _ = pb
    have hpy : pb = false := by rw [← hpx]; rfl
    subst hpy; clear hpx
    go_wp2_with fail
    refine (y_strings_HasPrefix _ _ _).mono ?_
    rintro e w' ⟨rfl, rfl⟩
    generalize hpx : Lib.hasPrefix _ _ = pb
    have hpy : pb = true := by rw [← hpx]; rfl
    subst hpy; clear hpx
    go_wp2_with fail
    go_ret
    exact ⟨rfl, rfl⟩
  by_cases h4 : c = 4
  · subst h4
    have HM := Lib.hid (y_bits_Mul 1 4 (by decide) (by decide) w)
    go_enter Tryz.func36, Tryz.ntmps36
    go_wp2_with fail
    refine HM.out.mono ?_
    rintro e w' ⟨rfl, rfl⟩
    go_wp2_with fail
    refine (y_strings_HasPrefix _ _ _).mono ?_
    rintro e w' ⟨rfl, rfl⟩
    generalize hpx : Lib.hasPrefix _ _ = pb
    have hpy : pb = false := by rw [← hpx]; rfl
    subst hpy; clear hpx
    go_wp2_with fail
    refine (y_strings_HasPrefix _ _ _).mono ?_
    rintro e w' ⟨rfl, rfl⟩
    generalize hpx : Lib.hasPrefix _ _ = pb
    have hpy : pb = false := by rw [← hpx]; rfl
    subst hpy; clear hpx
    go_wp2_with fail
    refine (y_strings_HasPrefix _ _ _).mono ?_
    rintro e w' ⟨rfl, rfl⟩
    generalize hpx : Lib.hasPrefix _ _ = pb
    have hpy : pb = true := by rw [← hpx]; rfl
    subst hpy; clear hpx
    go_wp2_with fail
    go_ret
    exact ⟨rfl, rfl⟩
  by_cases h5 : c = 5
  · subst h5
    have HM := Lib.hid (y_bits_Mul 1 5 (by decide) (by decide) w)
    go_enter Tryz.func36, Tryz.ntmps36
    go_wp2_with fail
    refine HM.out.mono ?_
    rintro e w' ⟨rfl, rfl⟩
    go_wp2_with fail
    refine (y_strings_HasPrefix _ _ _).mono ?_
    rintro e w' ⟨rfl, rfl⟩
    generalize hpx : Lib.hasPrefix _ _ = pb
    have hpy : pb = false := by rw [← hpx]; rfl
    subst hpy; clear hpx
    go_wp2_with fail
    refine (y_strings_HasPrefix _ _ _).mono ?_
    rintro e w' ⟨rfl, rfl⟩
    generalize hpx : Lib.hasPrefix _ _ = pb
    have hpy : pb = false := by rw [← hpx]; rfl
    subst hpy; clear hpx
    go_wp2_with fail
    refine (y_strings_HasPrefix _ _ _).mono ?_
    rintro e w' ⟨rfl, rfl⟩
    generalize hpx : Lib.hasPrefix _ _ = pb
    have hpy : pb = true := by rw [← hpx]; rfl
    subst hpy; clear hpx
    go_wp2_with fail
    go_ret
    exact ⟨rfl, rfl⟩
  by_cases h6 : c = 6
  · subst h6
    have HM := Lib.hid (y_bits_Mul 1 6 (by decide) (by decide) w)
    go_enter Tryz.func36, Tryz.ntmps36
    go_wp2_with fail
    refine HM.out.mono ?_
    rintro e w' ⟨rfl, rfl⟩
    go_wp2_with fail
    refine (y_strings_HasPrefix _ _ _).mono ?_
    rintro e w' ⟨rfl, rfl⟩
    generalize hpx : Lib.hasPrefix _ _ = pb
    have hpy : pb = false := by rw [← hpx]; rfl
    subst hpy; clear hpx
    go_wp2_with fail
    refine (y_strings_HasPrefix _ _ _).mono ?_
    rintro e w' ⟨rfl, rfl⟩
    generalize hpx : Lib.hasPrefix _ _ = pb
    have hpy : pb = false := by rw [← hpx]; rfl
    subst hpy; clear hpx
    go_wp2_with fail
    refine (y_strings_HasPrefix _ _ _).mono ?_
    rintro e w' ⟨rfl, rfl⟩
    generalize hpx : Lib.hasPrefix _ _ = pb
    have hpy : pb = true := by rw [← hpx]; rfl
    subst hpy; clear hpx
    go_wp2_with fail
    go_ret
    exact ⟨rfl, rfl⟩
  by_cases h7 : c = 7
  · subst h7
    have HM := Lib.hid (y_bits_Mul 1 7 (by decide) (by decide) w)
    go_enter Tryz.func36, Tryz.ntmps36
    go_wp2_with fail
    refine HM.out.mono ?_
    rintro e w' ⟨rfl, rfl⟩
    go_wp2_with fail
    refine (y_strings_HasPrefix _ _ _).mono ?_
    rintro e w' ⟨rfl, rfl⟩
    generalize hpx : Lib.hasPrefix _ _ = pb
    have hpy : pb = false := by rw [← hpx]; rfl
    subst hpy; clear hpx
    go_wp2_with fail
    refine (y_strings_HasPrefix _ _ _).mono ?_
    rintro e w' ⟨rfl, rfl⟩
    generalize hpx : Lib.hasPrefix _ _ = pb
    have hpy : pb = false := by rw [← hpx]; rfl
    subst hpy; clear hpx
    go_wp2_with fail
    refine (y_strings_HasPrefix _ _ _).mono ?_
    rintro e w' ⟨rfl, rfl⟩
    generalize hpx : Lib.hasPrefix _ _ = pb
    have hpy : pb = true := by rw [← hpx]; rfl
    subst hpy; clear hpx
    go_wp2_with fail
    go_ret
    exact ⟨rfl, rfl⟩
  by_cases h8 : c = 8
  · subst h8
    have HM := Lib.hid (y_bits_Mul 1 8 (by decide) (by decide) w)
    go_enter Tryz.func36, Tryz.ntmps36
    go_wp2_with fail
    refine HM.out.mono ?_
    rintro e w' ⟨rfl, rfl⟩
    go_wp2_with fail
    refine (y_strings_HasPrefix _ _ _).mono ?_
    rintro e w' ⟨rfl, rfl⟩
    generalize hpx : Lib.hasPrefix _ _ = pb
    have hpy : pb = false := by rw [← hpx]; rfl
    subst hpy; clear hpx
    go_wp2_with fail
    refine (y_strings_HasPrefix _ _ _).mono ?_
    rintro e w' ⟨rfl, rfl⟩
    generalize hpx : Lib.hasPrefix _ _ = pb
    have hpy : pb = false := by rw [← hpx]; rfl
    subst hpy; clear hpx
    go_wp2_with fail
    refine (y_strings_HasPrefix _ _ _).mono ?_
    rintro e w' ⟨rfl, rfl⟩
    generalize hpx : Lib.hasPrefix _ _ = pb
    have hpy : pb = true := by rw [← hpx]; rfl
    subst hpy; clear hpx
    go_wp2_with fail
    go_ret
    exact ⟨rfl, rfl⟩
  omega
theorem itoa_nat (x : Nat) : Lib.itoa (x : Int) = Lib.decDigits x := by
  unfold Lib.itoa
  rw [if_neg (by omega), Int.toNat_natCast]
theorem itoaN (x : Nat) (hx : x < 1000000000) (w : World) (hp : Pow w) :
    Calls Tryz.prog 35 #[.int .i64 (x : Int)] w fun e w' => e = .returned (bs (Lib.decDigits x)) ∧ Below w.heap.size w w' := by
  rw [← itoa_nat]; exact itoa_any (x : Int) (by omega) (by omega) w hp

set_option maxHeartbeats 4000000 in
theorem textN_any (A : Option Addr) (n c : Nat) (l : List Nat) (w : World) (B : Nat) (hgl : 0 < B) (hB : B ≤ w.heap.size) (h : RdU w B A l) (hl : l.length = n) (hn : n ≤ 100000) (hN : Nm l) (hp : Pow w) :
    Calls Tryz.prog 22 #[.slice A n c] w fun e w' => e = .returned (bs (Lib.decDigits (vB 1000000000 l))) ∧ Below w.heap.size w w' := by
  have H := Lib.hid h; have HL := Lib.hid hl; have HN := Lib.hid hN; have HP := Lib.hid hp
  clear h hl hN hp
  by_cases h0 : n = 0
  · have d1 : ((n : Int) == 0) = true := by simp [h0]
    have HS : Hid (bs (Lib.decDigits (vB 1000000000 l)) = .string ⟨#[48]⟩) := Lib.hid (by
      rw [List.length_eq_zero_iff.1 (show l.length = 0 by rw [HL.out]; exact h0), show vB 1000000000 [] = 0 from rfl, dd_small 0 (by decide)]; rfl)
    clear h0
    go_enter Tryz.func22, Tryz.ntmps22
    go_wp2_with fail
    go_ret
    exact ⟨by rw [HS.out]; rfl, Below.refl _ _⟩
  have d1 : ((n : Int) == 0) = false := by simp; omega
  obtain ⟨m, hm⟩ : ∃ m, n = m + 1 := ⟨n - 1, by omega⟩
  have hmi : (n : Int) - 1 = (m : Int) := by omega
  have hmi2 : (n : Int) - 2 = (m : Int) - 1 := by omega
  have hmn : m < n := by omega
  have HM := Lib.hid hm
  obtain ⟨g, hg⟩ : ∃ g, w.heap.size = g := ⟨_, rfl⟩
  obtain ⟨w1, hw1⟩ : ∃ w1, w1 = w.alloc (.cells #[.pointer none, .slice none 0 0] 81) := ⟨_, rfl⟩
  have hb1 : Below g w w1 := by rw [hw1, ← hg]; exact (Below.refl _ _).alloc (Nat.le_refl _) _
  have HF : Hid (Bld g g [] w1) := Lib.hid (by rw [hw1, ← hg]; exact Lib.fresh_isBuilder 81 5 w)
  have hz1 : w1.heap.size = g + 1 := by rw [hw1, ← hg]; simp
  obtain ⟨ba, oa, rfl, hba, hca⟩ := H.out.at_ (by rw [HL.out]; omega)
  have HC : Hid (∀ k, k < n → w.cell? ⟨ba, oa + k, none⟩ = some (.int .u32 ((l.getD k 0 : Nat) : Int))) := Lib.hid (fun k hk => hca k (by rw [HL.out]; exact hk))
  have hbg : ba < g := by omega
  have cm := (hb1.cell (p := ⟨ba, oa + m, none⟩) hbg).trans (HC.out m hmn)
  have hx := getD_lt (b := 1000000000) (by decide) HN.out.d m
  have htop := dd_top (l := l) (fun e => by have := HL.out; rw [e] at this; simp at this; omega)
  have hm2 : l.length - 1 = m := by rw [HL.out]; omega
  rw [hm2] at htop
  have hglg : 0 < g := by omega
  obtain ⟨x, hxe⟩ : ∃ x, x = l.getD m 0 := ⟨_, rfl⟩
  rw [← hxe] at cm hx htop
  have cmA := cm
  rw [hw1] at cmA
  have HT := Lib.hid htop
  have HB1 := Lib.hid hb1
  have HG := Lib.hid hg
  have HIT := Lib.hid (itoaN x hx w1 (HP.out.below hglg hb1))
  have hdl := dd_len 9 x hx (by decide)
  have HDL := Lib.hid hdl
  clear hca hxe htop hm2 hb1 h0 hm hB hba hdl
  unfold bs at HIT
  go_enter Tryz.func22, Tryz.ntmps22
  go_wp2_with fail
  rw [← hw1]
  clear hw1 hg cmA
  go_wp2_with fail
  refine HIT.out.mono ?_
  rintro e w2 ⟨rfl, hb2⟩
  have HB2 : Hid (Below g w w2) := Lib.hid (HB1.out.trans (hb2.mono (by omega)))
  have hz2 := hb2.size
  have HW := Lib.hid (write_any g g [] (Lib.decDigits x) w2 (HF.out.bel hb2) (by have := HDL.out; simp; omega) (by omega))
  clear hb2 HIT cm
  unfold bs at HW
  go_wp2_with fail
  refine HW.out.mono ?_
  rintro e w3 ⟨rfl, h3, hb3⟩
  have HB3 : Hid (Below g w w3) := Lib.hid (HB2.out.trans hb3)
  have H3 := Lib.hid h3
  clear hb3 h3 HW HB2
  go_wp2_with fail
  have HS3 : Hid (Bld g g (Lib.decDigits (vB 1000000000 (l.drop m))) w3) := Lib.hid (by rw [HT.out]; exact H3.out)
  have HL3 : Hid ((Lib.decDigits (vB 1000000000 (l.drop m))).length ≤ 9 * (n - m)) := Lib.hid (by rw [HT.out]; have := HDL.out; omega)
  go_loopw [4] (fun i wr => ∃ j : Nat, j ≤ m ∧ i = .int .i64 ((j : Int) - 1) ∧ Hid (Bld g g (Lib.decDigits (vB 1000000000 (l.drop j))) wr) ∧ Hid ((Lib.decDigits (vB 1000000000 (l.drop j))).length ≤ 9 * (n - j)) ∧ Hid (Below g w wr)) (fun i _ => (intOf i + 1).toNat)
  case atStart => exact ⟨m, Nat.le_refl _, rfl, HS3.out, HL3.out, HB3.out⟩
  case round =>
    as_aux_lemma =>
      clear HS3 HL3 H3 HB3 HT
      obtain ⟨j, hj, rfl, HBD, HLE, HBW⟩ := hrel
      have hzr := HBW.out.size
      have hgw := HG.out
      by_cases h0 : j = 0
      · as_aux_lemma =>
          subst h0
          rw [List.drop_zero] at HBD
          have HS := Lib.hid (y_Builder_String_any g g _ wr HBD.out (by omega))
          go_wp2_with fail
          refine HS.out.mono ?_
          rintro e w6 ⟨rfl, hb6⟩
          go_wp2_with fail
          go_ret
          exact ⟨rfl, by rw [hgw]; exact HBW.out.trans hb6⟩
      · as_aux_lemma =>
          obtain ⟨p, hp⟩ : ∃ p, j = p + 1 := ⟨j - 1, by omega⟩
          have hpi : (j : Int) - 1 = (p : Int) := by omega
          have hpn : p < n := by omega
          have cp := (HBW.out.cell (p := ⟨ba, oa + p, none⟩) hbg).trans (HC.out p hpn)
          have hy := getD_lt (b := 1000000000) (by decide) HN.out.d p
          have hdr := dd_drop HN.out (i := p) (by rw [HL.out]; omega)
          rw [← hp] at hdr
          obtain ⟨y, hye⟩ : ∃ y, y = l.getD p 0 := ⟨_, rfl⟩
          rw [← hye] at cp hy hdr
          have HIT := Lib.hid (itoaN y hy wr (HP.out.below hglg HBW.out))
          have hdl := dd_len 9 y hy (by decide)
          have hdp := dd_len_pos y
          obtain ⟨T0, hT0⟩ : ∃ T0, T0 = Lib.decDigits (vB 1000000000 (l.drop j)) := ⟨_, rfl⟩
          rw [← hT0] at HBD HLE hdr
          have hle0 := HLE.out
          have hnj : n - j ≤ 100000 := by omega
          have hnp : n - p = (n - j) + 1 := by omega
          have hbig : T0.length + 9 ≤ 1000000 := by omega
          obtain ⟨r, hr⟩ : ∃ r, 9 - (Lib.decDigits y).length = r := ⟨_, rfl⟩
          have hri : (9 : Int) - ((Lib.decDigits y).length : Int) = (r : Int) := by omega
          unfold pad at hdr
          rw [hr] at hdr
          have hr8 : r ≤ 8 := by omega
          have hrl : r + (Lib.decDigits y).length = 9 := by omega
          obtain ⟨D, hD⟩ : ∃ D, D = Lib.decDigits y := ⟨_, rfl⟩
          unfold bs at HIT
          rw [← hD] at HIT hdl hdp hri hdr hrl
          have hcat := ba_cat (List.replicate r 48) D
          have hsz1 : (ByteArray.mk (List.replicate r 48).toArray).size = r := by show (List.replicate r (48 : UInt8)).toArray.size = r; simp
          have hsz2 : (ByteArray.mk D.toArray).size = D.length := by show D.toArray.size = _; simp
          have HDR := Lib.hid hdr
          have HLE2 : Hid ((T0 ++ (List.replicate r 48 ++ D)).length ≤ 9 * (n - p)) := Lib.hid (by
            rw [List.length_append, List.length_append, List.length_replicate]; omega)
          have HCAT := Lib.hid hcat
          have hcap : ¬ 9223372036854775807 < r + D.length := by omega
          clear hdr hye hT0 hle0 hnj hnp hr hD hp h0 hcat HLE
          rw [hpi]
          go_wp2_with fail
          refine HIT.out.mono ?_
          rintro e w2 ⟨rfl, hb2⟩
          have hz2 := hb2.size
          have HB2 : Hid (Below g w w2) := Lib.hid (HBW.out.trans (hb2.mono (by omega)))
          have HBD2 := Lib.hid (HBD.out.bel hb2)
          have HRP := Lib.hid (repeat_zero r hr8 w2)
          clear hb2 HIT cp
          go_wp2_with fail
          refine HRP.out.mono ?_
          rintro e w3' ⟨rfl, rfl⟩
          have HW := Lib.hid (write_any g g T0 (List.replicate r 48 ++ D) w3' HBD2.out (by rw [List.length_append, List.length_replicate]; omega) (by omega))
          unfold bs at HW
          rw [← HCAT.out] at HW
          clear HRP
          go_wp2_with fail
          refine HW.out.mono ?_
          rintro e w4 ⟨rfl, h4, hb4⟩
          have HB4 : Hid (Below g w w4) := Lib.hid (HB2.out.trans hb4)
          have H4 := Lib.hid h4
          clear h4 hb4 HW
          go_wp2_with fail
          go_roundw
          case rel => exact ⟨p, by omega, rfl, by rw [HDR.out]; exact H4.out, by rw [HDR.out]; exact HLE2.out, HB4.out⟩
          case measure => simp [intOf]
end Go.Proofs.YtkcpfpofimkkiaaGreatDoor
namespace Go.Proofs.YtkcpfpofimkkiaaGreatDoor
open Go.RowKit BigFrame
set_option linter.unusedVariables false
set_option linter.unusedSimpArgs false
set_option maxRecDepth 100000

theorem elW : ElTy Tryz.prog 49 51 1 24 (.slice none 0 0) := ⟨Tryz.underlying49, by kernel_rfl, rfl, by decide⟩
/-- A block of numbers of the call's own. -/
structure NmW (w : World) (bw n : Nat) (vs : List Value) (L : List (List Nat)) : Prop where
  k : Blk w bw 51 vs
  l : vs.length = n
  ll : L.length = n
  r : ∀ (s : Nat) (u : Value), vs[s]? = some u → OwU w (bw + 1) u (L.getD s [])
section
variable {w w' : World} {bw n : Nat} {vs : List Value} {L : List (List Nat)}
theorem NmW.ext (h : NmW w bw n vs L) (hb : Below w.heap.size w w') : NmW w' bw n vs L := ⟨h.k.below' hb, h.l, h.ll, fun s u hu => (h.r s u hu).ext hb⟩
theorem NmW.set_ (h : NmW w bw n vs L) {i : Nat} (hi : i < n) {v : Value} {S : List Nat} (hv : OwU w (bw + 1) v S) : NmW (w.setCell ⟨bw, i, none⟩ v) bw n (vs.set i v) (L.set i S) := by
  refine ⟨h.k.set_ i v, by rw [List.length_set]; exact h.l, by rw [List.length_set]; exact h.ll, fun s u hu => ?_⟩
  rw [getD_set (by rw [h.ll]; exact hi)]
  by_cases q : i = s
  · subst q
    rw [List.getElem?_set_self (by rw [h.l]; exact hi)] at hu
    cases hu
    rw [if_pos rfl]
    exact own_set (p := ⟨bw, i, none⟩) hv (Nat.lt_succ_self _)
  · rw [List.getElem?_set_ne q] at hu
    rw [if_neg q]
    exact own_set (p := ⟨bw, i, none⟩) (h.r s u hu) (Nat.lt_succ_self _)
theorem NmW.at_ (h : NmW w bw n vs L) {s : Nat} (hs : s < n) : ∃ A c, w.cell? ⟨bw, s, none⟩ = some (.slice A (L.getD s []).length c) ∧ w.frozen? ⟨bw, s, none⟩ = false ∧ RdU w w.heap.size A (L.getD s []) := by
  have hsv : s < vs.length := by rw [h.l]; exact hs
  have hu : vs[s]? = some vs[s] := List.getElem?_eq_getElem hsv
  obtain ⟨A, c, e, -, -, hr⟩ := (h.r s _ hu).form
  rw [e] at hu
  exact ⟨A, c, h.k.cell hu, h.k.frozen s, hr⟩
end
theorem mk_nums (w : World) (n : Nat) (hn : n ≤ 1000) : (Instr.makeSlice 49 (.int .i64 (n : Int)) (.int .i64 (n : Int))).run Tryz.prog w = .ok (.slice (some ⟨w.heap.size, 0, none⟩) n n) (w.alloc (.cells (zs (.slice none 0 0) n) 51)) :=
  mk_row elW rfl .i64 .i64 n n rfl (by omega) (by omega) w
theorem NmW.made (w : World) (n : Nat) : NmW (w.alloc (.cells (zs (.slice none 0 0) n) 51)) w.heap.size n (List.replicate n (.slice none 0 0)) (List.replicate n []) := by
  refine ⟨Blk.made w _ _ n, List.length_replicate, List.length_replicate, fun s u hu => ?_⟩
  have e : (List.replicate n ([] : List Nat)).getD s [] = [] := by
    rw [List.getD_eq_getElem?_getD, List.getElem?_replicate]; split <;> rfl
  rw [e]
  rw [List.getElem?_replicate] at hu
  split at hu
  · cases hu; exact OwU.nil _ _
  · cases hu

/-- How many lists of N points, as the program tells it. -/
def cntQ (l : List St) (N : Int) : List UInt8 := if okA l = false then [48] else cntT l N

set_option maxHeartbeats 4000000 in
theorem pCount_bad (A : Option Addr) (n c : Nat) (l : List St) (N : Int) (w : World) (B : Nat) (hB : B ≤ w.heap.size) (h : (shL shState).rd w (Lo B) l [.slice A n c]) (hl : l.length = n) (hn : n ≤ 1000) (hbad : okA l = false ∨ n = 0 ∨ N < 0 ∨ 200 < N) :
    Calls Tryz.prog 8 #[.agg #[.slice A n c], .int .i64 N] w fun e w' => e = .returned (.string ⟨(cntQ l N).toArray⟩) ∧ Below w.heap.size w w' := by
  have H := Lib.hid h; have HL := Lib.hid hl
  obtain ⟨g, hg⟩ : ∃ g, w.heap.size = g := ⟨_, rfl⟩
  obtain ⟨W0, hW0⟩ : ∃ W0, W0 = w.alloc (.cells #[.slice A n c] 24) := ⟨_, rfl⟩
  have hb0 : Below g w W0 := by rw [hW0, ← hg]; exact (Below.refl _ _).alloc (Nat.le_refl _) _
  have hk0 : Blk W0 g 24 [.slice A n c] := by rw [hW0, ← hg]; exact Blk.new w _ _
  have hs0 : W0.heap.size = g + 1 := by rw [hW0, ← hg]; simp
  have hgB : B ≤ g := by omega
  have HOK := Lib.hid (autoOk_any A n c l W0 (Sh.up (Sh.below h (hb0.mono hgB)) (by omega)) hl (by omega))
  have HB0 := Lib.hid hb0; have HS0 := Lib.hid hs0; have HG := Lib.hid hg; have HK0 := Lib.hid hk0
  have HT : Hid (cntQ l N = [48]) := Lib.hid (by
    unfold cntQ
    by_cases e : okA l = false
    · rw [if_pos e]
    · rw [if_neg e]; unfold cntT; rw [if_pos (by rw [hl]; exact hbad.resolve_left e)])
  have z0 := hk0.cell (i := 0) rfl
  have HBD := Lib.hid hbad
  clear h hl hb0 hk0 hbad
  go_enter Tryz.func8, Tryz.ntmps8
  go_wp2_with fail
  rw [← hW0]
  clear hW0
  go_wp2_with fail
  refine HOK.out.mono ?_
  rintro e w1 ⟨rfl, hb1⟩
  have z1 := (HK0.out.below' hb1).cell (i := 0) rfl
  have HB1 : Hid (Below g w w1) := Lib.hid (HB0.out.trans (hb1.mono (by omega)))
  clear HOK hb1 z0
  by_cases hok : okA l = false
  · rw [hok]
    go_wp2_with fail
    go_ret
    exact ⟨by rw [HT.out]; rfl, by rw [HG.out]; exact HB1.out⟩
  have hok2 : okA l = true := by cases e : okA l; exact absurd e hok; rfl
  rw [hok2]
  have hbad2 := HBD.out.resolve_left hok
  have HB2 := Lib.hid hbad2
  clear hok hok2 hbad2
  by_cases h0 : n = 0
  · have d1 : ((n : Int) == 0) = true := by simp [h0]
    clear h0
    go_wp2_with fail
    go_ret
    exact ⟨by rw [HT.out]; rfl, by rw [HG.out]; exact HB1.out⟩
  have d1 : ((n : Int) == 0) = false := by simp; omega
  by_cases h1 : N < 0
  · have d2 : decide (N < 0) = true := decide_eq_true h1
    go_wp2_with fail
    go_ret
    exact ⟨by rw [HT.out]; rfl, by rw [HG.out]; exact HB1.out⟩
  have d2 : decide (N < 0) = false := decide_eq_false h1
  have d3 : decide (200 < N) = true := decide_eq_true (by have := HB2.out; omega)
  go_wp2_with fail
  go_ret
  exact ⟨by rw [HT.out]; rfl, by rw [HG.out]; exact HB1.out⟩

set_option maxHeartbeats 8000000 in
theorem pCount_any (A : Option Addr) (n c : Nat) (l : List St) (N : Int) (w : World) (B : Nat) (hgl : 0 < B) (hB : B ≤ w.heap.size) (h : (shL shState).rd w (Lo B) l [.slice A n c]) (hl : l.length = n) (hn : n ≤ 1000) (hm : totM l ≤ 60) (hp : Pow w) :
    Calls Tryz.prog 8 #[.agg #[.slice A n c], .int .i64 N] w fun e w' => e = .returned (.string ⟨(cntQ l N).toArray⟩) ∧ Below w.heap.size w w' := by
  by_cases hbad : okA l = false ∨ n = 0 ∨ N < 0 ∨ 200 < N
  · exact pCount_bad A n c l N w B hB h hl hn hbad
  have hok : okA l = true := by cases e : okA l; exact absurd (.inl e) hbad; rfl
  have hbad2 : ¬ (n = 0 ∨ N < 0 ∨ 200 < N) := fun e => hbad (.inr e)
  obtain ⟨q, hq⟩ : ∃ q : Nat, N = (q : Int) := ⟨N.toNat, by omega⟩
  subst hq
  have hq200 : q ≤ 200 := by omega
  have hn0 : 0 < n := by omega
  have H := Lib.hid h; have HL := Lib.hid hl; have HM := Lib.hid hm; have HOK := Lib.hid hok; have HPW := Lib.hid hp
  obtain ⟨g, hg⟩ : ∃ g, w.heap.size = g := ⟨_, rfl⟩
  obtain ⟨W0, hW0⟩ : ∃ W0, W0 = w.alloc (.cells #[.slice A n c] 24) := ⟨_, rfl⟩
  have hb0 : Below g w W0 := by rw [hW0, ← hg]; exact (Below.refl _ _).alloc (Nat.le_refl _) _
  have hk0 : Blk W0 g 24 [.slice A n c] := by rw [hW0, ← hg]; exact Blk.new w _ _
  have hs0 : W0.heap.size = g + 1 := by rw [hW0, ← hg]; simp
  have hgB : B ≤ g := by omega
  have HAO := Lib.hid (autoOk_any A n c l W0 (Sh.up (Sh.below h (hb0.mono hgB)) (by omega)) hl (by omega))
  rw [hok] at HAO
  have HB0 := Lib.hid hb0; have HG := Lib.hid hg; have HK0 := Lib.hid hk0
  have HT : Hid (cntQ l (q : Int) = Lib.decDigits (cnt l q 0)) := Lib.hid (by
    unfold cntQ
    rw [if_neg (by rw [hok]; simp)]; unfold cntT; rw [if_neg (by rw [hl]; exact hbad2)]; rfl)
  have z0 := hk0.cell (i := 0) rfl
  have d1 : ((n : Int) == 0) = false := by simp; omega
  have d2 : decide ((q : Int) < 0) = false := decide_eq_false (by omega)
  have d3 : decide (200 < (q : Int)) = false := decide_eq_false (by omega)
  clear h hl hb0 hk0 hbad hbad2 hok hm hp
  go_enter Tryz.func8, Tryz.ntmps8
  go_wp2_with fail
  rw [← hW0]
  clear hW0
  go_wp2_with fail
  refine HAO.out.mono ?_
  rintro e w1 ⟨rfl, hb1⟩
  clear hg
  have hz1 := hb1.size
  have z1 := (HK0.out.below' hb1).cell (i := 0) rfl
  have HB1 : Hid (Below g w w1) := Lib.hid (HB0.out.trans (hb1.mono (by omega)))
  have HG1 : Hid (Blk w1 g 24 [.slice A n c]) := Lib.hid (HK0.out.below' hb1)
  have hmk := mk_nums w1 n hn
  obtain ⟨bw, hbw⟩ : ∃ bw, w1.heap.size = bw := ⟨_, rfl⟩
  obtain ⟨w2, hw2⟩ : ∃ w2, w2 = w1.alloc (.cells (zs (.slice none 0 0) n) 51) := ⟨_, rfl⟩
  have HNM : Hid (NmW w2 bw n (List.replicate n (.slice none 0 0)) (List.replicate n [])) := Lib.hid (by rw [hw2, ← hbw]; exact NmW.made w1 n)
  have HBW2 : Hid (Below bw w1 w2) := Lib.hid (by rw [hw2, ← hbw]; exact (Below.refl _ _).alloc (Nat.le_refl _) _)
  rw [← hw2, hbw] at hmk
  have hz2 : w2.heap.size = bw + 1 := by rw [hw2, ← hbw]; simp
  have hgbw : g < bw := by omega
  have HBW := Lib.hid hbw
  clear HAO hb1 z0 hw2 hbw
  go_wp2_with fail
  have HB2 : Hid (Below g w w2) := Lib.hid (HB1.out.trans (HBW2.out.mono (by omega)))
  go_loopw [35] (fun i wr => ∃ (k : Nat) (vs : List Value) (L : List (List Nat)), k ≤ n ∧ i = .int .i64 (k : Int) ∧ Hid (NmW wr bw n vs L) ∧ Hid (Pg0 l n k L) ∧ Hid (Kp (fun p => p = bw) w2 wr)) (fun i _ => n - (intOf i).toNat)
  case atStart => exact ⟨0, _, _, Nat.zero_le _, rfl, HNM.out, Pg0.start _ _, Kp.refl _ _⟩
  case round =>
    as_aux_lemma =>
      clear HNM hmk
      obtain ⟨k, vs, L, hk, rfl, HN, HP, HK⟩ := hrel
      have hzr := HK.out.size
      have HBR2 : Hid (Below bw w2 wr) := Lib.hid (HK.out.bel (by omega) (fun p hp e => by have e2 : p = bw := e; omega))
      have HBR1 : Hid (Below bw w1 wr) := Lib.hid (HBW2.out.trans HBR2.out)
      have HBR : Hid (Below g w wr) := Lib.hid (HB2.out.trans (HBR2.out.mono (by omega)))
      have zg := (HBR1.out.cell (p := ⟨g, 0, none⟩) hgbw).trans z1
      by_cases hlt : k < n
      · as_aux_lemma =>
          clear z1
          have d0 : decide (k < n) = true := decide_eq_true hlt
          have hkl : k < l.length := by rw [HL.out]; exact hlt
          obtain ⟨b, off, rfl, hb, hst⟩ := states_at H.out (by omega)
          obtain ⟨g1, -⟩ := hst k _ (List.getElem?_eq_getElem hkl)
          have hb : b < B := hb
          have y1 := (HBR.out.cell (p := ⟨b, off + k * 2, none⟩) (by show b < g; omega)).trans g1
          have HYES := fun hr => HP.out.yes hlt (List.getElem?_eq_getElem hkl) hr
          have HNO := fun hr => HP.out.no (List.getElem?_eq_getElem hkl) hr
          generalize l[k] = st at *
          obtain ⟨r, ms⟩ := st
          simp only at y1 HYES HNO
          clear hst g1
          by_cases hr : 0 ≤ r
          · as_aux_lemma =>
              have d4 : decide (0 ≤ r) = true := decide_eq_true hr
              have HY := Lib.hid (HYES hr)
              have hof := of_any 1 wr (by decide) (by decide)
              rw [ofN_one (by decide) (by decide), show ((1 : Nat) : Int) = 1 from rfl] at hof
              have HOF := Lib.hid hof
              clear HYES HNO hof
              go_wp2_with fail
              refine HOF.out.mono ?_
              rintro e w3 ⟨v3, rfl, hv3, hb3⟩
              have hz3 := hb3.size
              have hn3 := HN.out.ext hb3
              have HV3 := Lib.hid (ownsRow_base hv3 (show bw + 1 ≤ wr.heap.size by omega))
              obtain ⟨A3, c3, rfl, -, -, -⟩ := OwU.form hv3
              have HSET := Lib.hid (hn3.set_ hlt HV3.out)
              have hfz := hn3.k.frozen k
              obtain ⟨A4, c4, zk, -, -⟩ := hn3.at_ hlt
              have HKP := Lib.hid ((HK.out.trans (Kp.of hb3)).set_ (p := ⟨bw, k, none⟩) (.inr rfl) (.slice A3 [1].length c3))
              clear hv3 hb3 hn3 HOF
              go_wp2_with fail
              go_roundw
              case rel => exact ⟨k + 1, _, _, by omega, by go_num, HSET.out, HY.out, HKP.out⟩
              case measure => simp [intOf]; omega
          · as_aux_lemma =>
              have d4 : decide (0 ≤ r) = false := decide_eq_false hr
              have HY := Lib.hid (HNO hr)
              clear HYES HNO
              go_wp2_with fail
              go_roundw
              case rel => exact ⟨k + 1, vs, L, by omega, by go_num, HN.out, HY.out, HK.out⟩
              case measure => simp [intOf]; omega
      · as_aux_lemma =>
          have d0 : decide (k < n) = false := decide_eq_false hlt
          obtain rfl : k = n := by omega
          have HPR := Lib.hid HP.out.done
          obtain ⟨ws, rfl⟩ : ∃ ws : World, ws = wr := ⟨_, rfl⟩
          go_wp2_with fail
          go_loopw [5, 51] (fun v i wr => ∃ (j bx : Nat) (vs : List Value) (L : List (List Nat)), j ≤ q ∧ i = .int .i64 (j : Int) ∧ v = .slice (some ⟨bx, 0, none⟩) k k ∧ Hid (NmW wr bx k vs L) ∧ Hid (PgR l j k L) ∧ Hid (Below bw w1 wr)) (fun _ i _ => q - (intOf i).toNat)
          case atStart => exact ⟨0, bw, vs, L, Nat.zero_le _, rfl, rfl, HN.out, HPR.out, HBR1.out⟩
          case round =>
            as_aux_lemma =>
              clear HN HP HK HPR HBR2 HBR1 HBR zg hzr
              obtain ⟨j, bx, vs, L, hj, rfl, rfl, HN, HP, HB⟩ := hrel
              have hzr := HB.out.size
              have zg := (HB.out.cell (p := ⟨g, 0, none⟩) hgbw).trans z1
              have hbx := HN.out.k.lt
              by_cases hjq : j < q
              · as_aux_lemma =>
                  have d0 : decide (j < q) = true := decide_eq_true hjq
                  have hj200 : j ≤ 200 := by omega
                  have hmk := mk_nums wr k hn
                  obtain ⟨bn, hbn⟩ : ∃ bn, wr.heap.size = bn := ⟨_, rfl⟩
                  obtain ⟨wo, hwo⟩ : ∃ wo, wo = wr.alloc (.cells (zs (.slice none 0 0) k) 51) := ⟨_, rfl⟩
                  have HNO : Hid (NmW wo bn k (List.replicate k (.slice none 0 0)) (List.replicate k [])) := Lib.hid (by rw [hwo, ← hbn]; exact NmW.made wr k)
                  have HBO : Hid (Below bn wr wo) := Lib.hid (by rw [hwo, ← hbn]; exact (Below.refl _ _).alloc (Nat.le_refl _) _)
                  rw [← hwo, hbn] at hmk
                  have hzo : wo.heap.size = bn + 1 := by rw [hwo, ← hbn]; simp
                  have zgo := (HBO.out.cell (p := ⟨g, 0, none⟩) (by show g < bn; omega)).trans zg
                  have hbbn : bw ≤ bn := by have := HBW.out; omega
                  have hbxn : bx < bn := by omega
                  have HBN := Lib.hid hbn
                  clear hwo hbn
                  obtain ⟨wr0, rfl⟩ : ∃ wr0 : World, wr0 = wr := ⟨_, rfl⟩
                  go_wp2_with fail
                  go_loopw [59] (fun i w' => ∃ (s : Nat) (vs : List Value) (L : List (List Nat)), s ≤ k ∧ i = .int .i64 (s : Int) ∧ Hid (NmW w' bn k vs L) ∧ Hid (PgS l j k s L) ∧ Hid (Below bn wr0 w') ∧ Hid (bn < w'.heap.size)) (fun i _ => k - (intOf i).toNat)
                  case atStart => exact ⟨0, _, _, Nat.zero_le _, rfl, HNO.out, PgS.start _ _ _, HBO.out, by rw [hzo]; exact Nat.lt_succ_self _⟩
                  case round =>
                    as_aux_lemma =>
                      clear hmk HNO zgo
                      obtain ⟨s, vs2, L2, hs, rfl, HN2, HP2, HB2s, HLT2⟩ := hrel
                      have hlt2 := HLT2.out
                      have hz2s := HB2s.out.size
                      have HBA : Hid (Below bw w1 wr) := Lib.hid (HB.out.trans (HB2s.out.mono hbbn))
                      have zg2 := (HBA.out.cell (p := ⟨g, 0, none⟩) hgbw).trans z1
                      have HBS : Hid (Below g w wr) := Lib.hid (HB1.out.trans (HBA.out.mono (by omega)))
                      by_cases hsk : s < k
                      · as_aux_lemma =>
                          have d1 : decide (s < k) = true := decide_eq_true hsk
                          have hkl : s < l.length := by rw [HL.out]; exact hsk
                          obtain ⟨b, off, rfl, hb, hst⟩ := states_at H.out (by omega)
                          obtain ⟨g1, A', c', g2, g3, g4, g5⟩ := hst s _ (List.getElem?_eq_getElem hkl)
                          have hb : b < B := hb
                          have htk := totM_take (List.getElem?_eq_getElem hkl)
                          have hle := totM_le l (s + 1)
                          have HST := Lib.hid (List.getElem?_eq_getElem hkl)
                          have HMV := Lib.hid (okA_mvs HOK.out _ (List.getElem_mem hkl))
                          generalize l[s] = st at *
                          obtain ⟨r, ms⟩ := st
                          obtain ⟨m, hm⟩ : ∃ m, m = ms.length := ⟨_, rfl⟩
                          have hm60 : m ≤ 60 := by have := HM.out; simp only at htk; omega
                          simp only at g1 g2 g3 g5
                          rw [← hm] at g2 g3 g5
                          have HSM := Lib.hid hm; have HMS := Lib.hid g5
                          have y1 := (HBS.out.cell (p := ⟨b, off + s * 2, none⟩) (by show b < g; omega)).trans g1
                          have y2 := (HBS.out.cell (p := ⟨b, off + s * 2 + 1, none⟩) (by show b < g; omega)).trans g2
                          have HEN := Lib.hid (HP2.out.enter ms)
                          unfold maxLen at g4
                          have hb1 : Below wr.heap.size wr (wr.alloc (.cells #[.int .i64 r, .slice A' m c'] 33)) := (Below.refl _ _).alloc (Nat.le_refl _) _
                          have HN3 := Lib.hid (HN2.out.ext hb1)
                          have HB3 := Lib.hid (HB2s.out.trans (hb1.mono (by omega)))
                          clear hm g5 htk hle g1 g2 hst hb1
                          go_wp2_with fail
                          generalize wr.alloc (.cells #[.int .i64 r, .slice A' m c'] 33) = wi at *
                          obtain ⟨wx, rfl⟩ : ∃ wx : World, wx = wr := ⟨_, rfl⟩
                          go_loopw [67] (fun i w' => ∃ (t : Nat) (vs : List Value) (L : List (List Nat)), t ≤ m ∧ i = .int .i64 (t : Int) ∧ Hid (NmW w' bn k vs L) ∧ Hid (PgM l j k s L ms t) ∧ Hid (Below bn wr0 w')) (fun i _ => m - (intOf i).toNat)
                          case atStart => exact ⟨0, _, _, Nat.zero_le _, rfl, HN3.out, HEN.out, HB3.out⟩
                          case round =>
                            as_aux_lemma =>
                              clear y1 y2 zg2 HN3 HEN HB3
                              obtain ⟨t, vs3, L3, ht, rfl, HN3, HP3, HB3⟩ := hrel
                              have hz3 := HB3.out.size
                              have hlt3 := HN3.out.k.lt
                              have HBT : Hid (Below bw w1 wr) := Lib.hid (HB.out.trans (HB3.out.mono hbbn))
                              have HBU : Hid (Below g w wr) := Lib.hid (HB1.out.trans (HBT.out.mono (by omega)))
                              by_cases htm : t < m
                              · as_aux_lemma =>
                                  have d2 : decide (t < m) = true := decide_eq_true htm
                                  have htl : t < ms.length := by rw [← HSM.out]; exact htm
                                  obtain ⟨b2, o2, rfl, hb2, hc2⟩ := moves_at HMS.out (by omega)
                                  have hb2 : b2 < B := hb2
                                  have hmv := List.getElem?_eq_getElem htl
                                  obtain ⟨u1, u2, u3⟩ := hc2 t _ hmv
                                  have u1 := (HBU.out.cell (p := ⟨b2, o2 + t * 3, none⟩) (by show b2 < g; omega)).trans u1
                                  have u2 := (HBU.out.cell (p := ⟨b2, o2 + t * 3 + 1, none⟩) (by show b2 < g; omega)).trans u2
                                  have u3 := (HBU.out.cell (p := ⟨b2, o2 + t * 3 + 2, none⟩) (by show b2 < g; omega)).trans u3
                                  obtain ⟨m1, m2, m3, m4, m5⟩ := HMV.out _ (List.getElem_mem htl)
                                  generalize ms[t] = mv at *
                                  have hwl := wid_lt m1 m3
                                  obtain ⟨x, y, z⟩ := mv
                                  simp only at u1 u2 u3 m1 m2 m3 m4 m5
                                  obtain ⟨zn, rfl⟩ : ∃ zn : Nat, z = (zn : Int) := ⟨z.toNat, by omega⟩
                                  obtain ⟨wn, hwn⟩ : ∃ wn, wn = wid (x, y, (zn : Int)) := ⟨_, rfl⟩
                                  have hwi : y - x + 1 = (wn : Int) := by rw [hwn]; unfold wid; simp only; omega
                                  have hwn0 : 0 < wn := by omega
                                  rw [← hwn] at hwl
                                  have hznk : zn < k := by rw [HL.out] at m5; omega
                                  have hv8 := HP.out.v zn hznk
                                  have hl8 := HP.out.b zn hznk
                                  have hn8 := HP.out.nm zn hznk
                                  have hn9 := HP3.out.nm s hsk
                                  have hl9 := HP3.out.bm
                                  have HADD := fun (S P : List Nat) a1 a2 a3 a4 a5 => HP3.out.add (S := S) (D := L.getD zn []) (P := P) hsk hmv hv8 a1 a2 a3 a4 a5
                                  rw [← hwn] at HADD
                                  obtain ⟨D, hD⟩ : ∃ D, D = L.getD zn [] := ⟨_, rfl⟩
                                  obtain ⟨E, hE⟩ : ∃ E, E = L3.getD s [] := ⟨_, rfl⟩
                                  rw [← hD] at hl8 hn8 HADD
                                  rw [← hE] at hn9 hl9 HADD
                                  obtain ⟨w1', hw1⟩ : ∃ w1', w1' = wr.alloc (.cells #[.int .i64 x, .int .i64 y, .int .i64 (zn : Int)] 35) := ⟨_, rfl⟩
                                  have hb1 : Below wr.heap.size wr w1' := by rw [hw1]; exact (Below.refl _ _).alloc (Nat.le_refl _) _
                                  have hk1 : Blk w1' wr.heap.size 35 [.int .i64 x, .int .i64 y, .int .i64 (zn : Int)] := by rw [hw1]; exact Blk.new wr _ _
                                  have hs1 : w1'.heap.size = wr.heap.size + 1 := by rw [hw1]; simp
                                  have HB1' := Lib.hid hb1; have HK1 := Lib.hid hk1; have HS1 := Lib.hid hs1; have HADD2 := Lib.hid HADD
                                  have hDl : D.length ≤ 20000 := by omega
                                  have hEl : E.length ≤ 20000 := by omega
                                  have HDE := Lib.hid hD; have HEE := Lib.hid hE
                                  clear hc2 hv8 hD hE hb1 hk1 hs1 hmv hwn HADD
                                  go_wp2_with fail
                                  rw [← hw1]
                                  clear hw1 u1 u2 u3
                                  obtain ⟨wd, hwd⟩ : ∃ wd, wd = w1'.drew := ⟨_, rfl⟩
                                  have hbd : Below w1'.heap.size w1' wd := by rw [hwd]; exact (Below.refl _ _).drew
                                  have hsd : wd.heap.size = wr.heap.size + 1 := by rw [hwd]; exact HS1.out
                                  have HBD : Hid (Below wr.heap.size wr wd) := Lib.hid (HB1'.out.trans (hbd.mono (by have := HS1.out; omega)))
                                  have hkd := HK1.out.below' hbd
                                  have hnd := HN3.out.ext HBD.out
                                  have hwd0 := HN.out.ext (HB3.out.trans (HBD.out.mono (by omega)) |>.mono (by have := HBN.out; omega))
                                  obtain ⟨A9, c9, z9, f9, r9⟩ := hnd.at_ hsk
                                  obtain ⟨A8, c8, z8, f8, r8⟩ := hwd0.at_ hznk
                                  rw [← HEE.out] at z9 r9
                                  rw [← HDE.out] at z8 r8
                                  have k9 : ∀ X : WB wd.heap.size wd, X.val.cell? ⟨bn, s, none⟩ = some (.slice A9 E.length c9) := fun X => (X.bel.cell (p := ⟨bn, s, none⟩) hnd.k.lt).trans z9
                                  have k8 : ∀ X : WB wd.heap.size wd, X.val.cell? ⟨bx, zn, none⟩ = some (.slice A8 D.length c8) := fun X => (X.bel.cell (p := ⟨bx, zn, none⟩) hwd0.k.lt).trans z8
                                  have k0 : ∀ X : WB wd.heap.size wd, X.val.cell? ⟨wr.heap.size, 0, none⟩ = some (.int .i64 x) := fun X => (X.bel.cell (p := ⟨wr.heap.size, 0, none⟩) hkd.lt).trans (hkd.cell (i := 0) rfl)
                                  have k1 : ∀ X : WB wd.heap.size wd, X.val.cell? ⟨wr.heap.size, 1, none⟩ = some (.int .i64 y) := fun X => (X.bel.cell (p := ⟨wr.heap.size, 1, none⟩) hkd.lt).trans (hkd.cell (i := 1) rfl)
                                  have k2 : ∀ X : WB wd.heap.size wd, X.val.cell? ⟨wr.heap.size, 2, none⟩ = some (.int .i64 (zn : Int)) := fun X => (X.bel.cell (p := ⟨wr.heap.size, 2, none⟩) hkd.lt).trans (hkd.cell (i := 2) rfl)
                                  have hof := of_any wn wd hwn0 (by omega)
                                  rw [ofN_one hwn0 (by omega)] at hof
                                  have HOF := Lib.hid hof
                                  have HND := Lib.hid hnd; have HR9 := Lib.hid r9; have HR8 := Lib.hid r8
                                  clear hbd hkd hof hnd hwd0 r9 r8 z9 z8 f9 f8
                                  refine wp_region_D (fun w' => ∃ X : WB wd.heap.size wd, w' = X.val) 2 20 (by kernel_rfl) 20 (by rfl) ?_
                                  rw [← hwd]
                                  clear hwd
                                  show wpAnyD _ _ _ _ _ _ _ (8 + 12) _ _ _
                                  refine takeD 8 0 12 (by kernel_rfl) (by kernel_rfl) (fun _ _ d _ _ h => by cases d <;> exact h) ⟨⟨_, Below.refl _ _⟩, rfl⟩ ?_
                                  simp only [List.take_succ_cons, List.take_zero, List.drop_succ_cons, List.drop_zero]
                                  repeat (first | go_big_quiet_skip | (go_big_quiet_want; go_big_quiet_op; go_big_quiet_on))
                                  refine wpQuiet_nil ?_
                                  show wpAnyD _ _ _ _ _ _ _ (3 + 5) _ _ _
                                  refine takeD 3 13 5 (by kernel_rfl) (by kernel_rfl) (fun _ _ d _ _ h => by cases d <;> exact h) ⟨⟨_, Below.refl _ _⟩, rfl⟩ ?_
                                  simp only [List.take_succ_cons, List.take_zero, List.drop_succ_cons, List.drop_zero]
                                  repeat (first | go_big_quiet_skip | (go_big_quiet_want; go_big_quiet_op; go_big_quiet_on))
                                  refine wpQuiet_nil ?_
                                  clear k0 k1 k2 k8 k9
                                  refine oneD 2 12 (by kernel_rfl) (by decide) ?_
                                  simp only [List.take_succ_cons, List.take_zero, List.drop_succ_cons, List.drop_zero]
                                  go_wp2_with fail
                                  refine HOF.out.mono ?_
                                  rintro e w3 ⟨v3, rfl, hv3, hb3⟩
                                  have hz4 := hb3.size
                                  have HX3 := Lib.hid hb3
                                  obtain ⟨A3, c3, rfl, -, -, hr3⟩ := OwU.form hv3
                                  have HTM := Lib.hid (times_u A3 A8 1 c3 D.length c8 [wn] D w3 w3.heap.size (Nat.le_refl _) hr3 rfl (RdU.more (RdU.below HR8.out hb3) hz4) rfl (by omega) (by omega) (Nm.of_last (l := []) (fun y hy => by simp at hy) hwn0 (by omega)) hn8)
                                  clear hv3 hb3 hr3 HOF
                                  go_wp2_with fail
                                  refine ⟨⟨WB.mk _ HX3.out, rfl⟩, ?_⟩
                                  refine oneD 1 18 (by kernel_rfl) (by decide) ?_
                                  simp only [List.take_succ_cons, List.take_zero, List.drop_succ_cons, List.drop_zero]
                                  go_wp2_with fail
                                  refine HTM.out.mono ?_
                                  rintro e w4 ⟨v4, P, rfl, hv4, hP1, hP2, hP3, hb4⟩
                                  have hz5 := hb4.size
                                  have HX4 : Hid (Below wd.heap.size wd w4) := Lib.hid (HX3.out.trans (hb4.mono hz4))
                                  obtain ⟨A4, c4, rfl, -, -, hr4⟩ := OwU.form hv4
                                  have HPL := Lib.hid (plus_u A9 A4 E.length c9 P.length c4 E P w4 w4.heap.size (Nat.le_refl _) (RdU.more (RdU.below HR9.out HX4.out) (by omega)) rfl hr4 rfl (by omega) (by omega) hn9 hP1)
                                  have HP2 := Lib.hid hP2
                                  clear hv4 hb4 hr4 HTM
                                  go_wp2_with fail
                                  refine ⟨⟨WB.mk _ HX4.out, rfl⟩, ?_⟩
                                  refine oneD 0 19 (by kernel_rfl) (by decide) ?_
                                  simp only [List.take_succ_cons, List.take_zero, List.drop_succ_cons, List.drop_zero]
                                  go_wp2_with fail
                                  refine HPL.out.mono ?_
                                  rintro e w5 ⟨v5, S, rfl, hv5, hS1, hS2, hS3, hb5⟩
                                  have hz6 := hb5.size
                                  have HX5 : Hid (Below wd.heap.size wd w5) := Lib.hid (HX4.out.trans (hb5.mono (by omega)))
                                  have hn5 := HND.out.ext HX5.out
                                  have HV5 := Lib.hid (ownsRow_base hv5 (show bn + 1 ≤ w4.heap.size by omega))
                                  obtain ⟨A5, c5, rfl, -, -, -⟩ := OwU.form hv5
                                  have HSET := Lib.hid (hn5.set_ hsk HV5.out)
                                  have hfz := hn5.k.frozen s
                                  obtain ⟨A6, c6, zk, -, -⟩ := hn5.at_ hsk
                                  have HKP : Hid (Below bn wr0 (w5.setCell ⟨bn, s, none⟩ (.slice A5 S.length c5))) := Lib.hid (((HB3.out.trans (HBD.out.mono (by omega))).trans (HX5.out.mono (by have := HBN.out; omega))).setCell (p := ⟨bn, s, none⟩) (Nat.le_refl _) _)
                                  have HPM := Lib.hid (HADD2.out S P (by rw [HP2.out, vB_one]) (by omega) hS2 hS1 hS3)
                                  clear hv5 hb5 hn5 HPL
                                  go_wp2_with fail
                                  refine ⟨⟨WB.mk _ HX5.out, rfl⟩, ?_⟩
                                  refine endD (by kernel_rfl) ?_
                                  simp only [List.drop_succ_cons, List.drop_zero]
                                  go_wp2_with fail
                                  go_roundw
                                  case rel => exact ⟨t + 1, _, _, by omega, by go_num, HSET.out, HPM.out, HKP.out⟩
                                  case measure => simp [intOf]; omega
                              · as_aux_lemma =>
                                  have d2 : decide (t < m) = false := decide_eq_false htm
                                  obtain rfl : t = m := by omega
                                  have hdn := HP3.out
                                  rw [HSM.out] at hdn
                                  have HDN := Lib.hid (PgM.done (st := (r, ms)) hdn HST.out (by show ms.length ≤ 60; rw [← HSM.out]; exact hm60))
                                  clear hdn
                                  go_wp2_with fail
                                  go_roundw
                                  case rel => exact ⟨s + 1, _, _, by omega, by go_num, HN3.out, HDN.out, HB3.out, hlt3⟩
                                  case measure => simp [intOf]; omega
                      · as_aux_lemma =>
                          have d1 : decide (s < k) = false := decide_eq_false hsk
                          obtain rfl : s = k := by omega
                          have HDN := Lib.hid HP2.out.done
                          go_wp2_with fail
                          go_roundw
                          case rel => exact ⟨j + 1, bn, _, _, by omega, by go_num, rfl, HN2.out, HDN.out, HBA.out⟩
                          case measure => simp [intOf]; omega
              · as_aux_lemma =>
                  have d0 : decide (j < q) = false := decide_eq_false hjq
                  obtain rfl : j = q := by omega
                  obtain ⟨A8, c8, z8, -, r8⟩ := HN.out.at_ hn0
                  have hn8 := HP.out.nm 0 hn0
                  have hv8 := HP.out.v 0 hn0
                  have hl8 := HP.out.b 0 hn0
                  have HTX := Lib.hid (textN_any A8 (L.getD 0 []).length c8 (L.getD 0 []) wr wr.heap.size (by omega) (Nat.le_refl _) r8 rfl (by omega) hn8 (HPW.out.below hgl ((HB1.out.mono hgB).trans (HB.out.mono (by omega)))))
                  rw [hv8] at HTX
                  generalize (L.getD 0 []).length = nn at *
                  unfold bs at HTX
                  clear r8 hn8 hv8 hl8
                  go_wp2_with fail
                  refine HTX.out.mono ?_
                  rintro e w5 ⟨rfl, hb5⟩
                  have HB5 := Lib.hid (HB1.out.trans ((HB.out.mono (by omega)).trans (hb5.mono (by omega))))
                  clear hb5
                  go_wp2_with fail
                  go_ret
                  exact ⟨by rw [HT.out]; rfl, by rw [HG.out]; exact HB5.out⟩
end Go.Proofs.YtkcpfpofimkkiaaGreatDoor
namespace Go.Proofs.YtkcpfpofimkkiaaGreatDoor
open Go.RowKit BigFrame Go.Maps
set_option linter.unusedVariables false
set_option linter.unusedSimpArgs false
set_option maxRecDepth 100000

theorem laidOutQ : laidOutB Tryz.prog = true := by kernel_rfl
theorem lawQ : Keyed Tryz.prog 68 := Keyed.of_law (deep_law_laid laidOutQ (m := 8) (by decide) (of_decide_eq_true (by kernel_rfl)) (by kernel_rfl) (by kernel_rfl))
/-- A pair within bounds. -/
def inQ (x : Nat × Nat) : Prop := x.1 ≤ 1000 ∧ x.2 ≤ 1000
def qV (x : Nat × Nat) : Value := .agg #[.int .i64 (x.1 : Int), .int .i64 (x.2 : Int)]
def qL (x : Nat × Nat) : Lit := .string (keyBytes [.int .i64 (x.1 : Int), .int .i64 (x.2 : Int)])
theorem wf_natQ {a : Nat} (h : a ≤ 100000) : (Lit.int .i64 (a : Int)).wf = true := WalkArith.wf_i64 (by omega)
theorem qOf {x : Nat × Nat} (hx : inQ x) : keyOf Tryz.prog 68 (qV x) = some (qL x) := by
  have h1 := wf_natQ (a := x.1) (by have := hx.1; omega)
  have h2 := wf_natQ (a := x.2) (by have := hx.2; omega)
  have c1 : Tryz.prog.cellsOf 3 = 1 := by kernel_rfl
  have c2 : Tryz.prog.cellsOf 68 = 2 := by kernel_rfl
  have h3 : Tryz.prog.keyType 68 = true := by kernel_rfl
  have h4 : (qV x).formed Tryz.prog 68 = true := by
    unfold qV Value.formed
    simp [Tryz.underlying68, c2]
  have h5 : ∀ d, Tryz.prog.keyLits (d + 2) 68 (qV x).cells.toList = some [.int .i64 (x.1 : Int), .int .i64 (x.2 : Int)] := fun d => by
    have hr : List.range 2 = [0, 1] := rfl
    unfold qV
    simp [Program.keyLits, hr, Tryz.underlying68, Tryz.underlying3, c1, c2, h1, h2, Value.cells]
  obtain ⟨d, hd⟩ : ∃ d, Tryz.prog.types.size + 1 = d + 2 := ⟨_, rfl⟩
  unfold keyOf
  rw [Tryz.underlying68]
  simp only [h3, h4, hd, h5, Bool.and_self, if_true, Option.map_some]
  rfl

/-- An element: the pair it was come from, the point. -/
abbrev Fr := (Nat × Nat) × Int
def inF (o : Fr) : Prop := inQ o.1 ∧ 0 ≤ o.2 ∧ o.2 ≤ 1114111
def frV (o : Fr) : Value := .agg #[.int .i64 (o.1.1 : Int), .int .i64 (o.1.2 : Int), .int .i64 o.2]
def frC (o : Fr) : Int := o.1.1 * 1000000000000 + o.1.2 * 100000000 + o.2
theorem frC_inj {o u : Fr} (ho : inF o) (hu : inF u) (h : frC o = frC u) : o = u := by
  obtain ⟨⟨a, b⟩, p⟩ := o
  obtain ⟨⟨c, d⟩, q⟩ := u
  unfold inF inQ at ho hu
  unfold frC at h
  simp only at ho hu h
  have e1 : a = c := by omega
  have e2 : b = d := by omega
  have e3 : p = q := by omega
  rw [e1, e2, e3]
theorem frV_inj {o u : Fr} (h : frV o = frV u) : o = u := by
  obtain ⟨⟨a, b⟩, p⟩ := o
  obtain ⟨⟨c, d⟩, q⟩ := u
  unfold frV at h
  simp only [Value.agg.injEq, Array.mk.injEq, List.cons.injEq, Value.int.injEq, true_and, and_true] at h
  have e1 : a = c := by omega
  have e2 : b = d := by omega
  rw [e1, e2, h.2.2]
open Classical in
/-- How an element lies in the map. -/
noncomputable def frElem (v : Value) : Option (DataW Unit × List MemPlace) :=
  if h : ∃ o : Fr, inF o ∧ v = frV o then some (.lit (.int .i64 (frC (Classical.choose h))), []) else none
theorem frElem_of {o : Fr} (h : inF o) : frElem (frV o) = some (.lit (.int .i64 (frC o)), []) := by
  have hx : ∃ u : Fr, inF u ∧ frV o = frV u := ⟨o, h, rfl⟩
  unfold frElem
  rw [dif_pos hx, ← frV_inj (Classical.choose_spec hx).2]
theorem frElem_inv {v : Value} {o : Fr} (h : inF o) {ps : List MemPlace} (he : frElem v = some (.lit (.int .i64 (frC o)), ps)) : v = frV o := by
  unfold frElem at he
  split at he
  · rename_i hx
    simp only [Option.some.injEq, Prod.mk.injEq, DataW.lit.injEq, Lit.int.injEq, true_and] at he
    rw [(Classical.choose_spec hx).2, frC_inj (Classical.choose_spec hx).1 h he.1]
  · cases he

/-- Map b leads from pairs to elements, as f says. -/
def QMap (w : World) (b n : Nat) (f : Nat × Nat → Option Fr) : Prop :=
  ∃ D : DataW Unit, w.ownsMap Tryz.prog 68 frElem b n D ∧ ∀ x, inQ x → Maps.has D (qL x) = (f x).isSome ∧ D.atKey (qL x) (.lit (.int .i64 (frC ((0, 0), 0)))) = .lit (.int .i64 (frC ((f x).getD ((0, 0), 0)))) ∧ ∀ o, f x = some o → inF o
theorem qL_inj {x y : Nat × Nat} (hx : inQ x) (hy : inQ y) (h : qL x = qL y) : x = y := by
  have h1 := qOf hx
  have h2 := qOf hy
  rw [← h] at h2
  have h3 := lawQ.inj h1 h2
  unfold qV at h3
  simp at h3
  exact Prod.ext (by omega) (by omega)
section
variable {w w' : World} {b n : Nat} {f : Nat × Nat → Option Fr}
theorem QMap.lt (h : QMap w b n f) : b < w.heap.size := by obtain ⟨D, hD, _⟩ := h; exact hD.lt
theorem QMap.kept (h : QMap w b n f) {row : Option Nat} (hg : w.grownBy w' row) (hne : some b ≠ row) : QMap w' b n f := by
  obtain ⟨D, hD, h2⟩ := h
  exact ⟨D, hD.kept hg hne, h2⟩
theorem QMap.ext (h : QMap w b n f) (hb : Below w.heap.size w w') : QMap w' b n f := h.kept (row := none) ⟨hb.os, hb.tape, hb.output, hb.size, fun k hk _ => hb.block k hk⟩ (by simp)
theorem QMap.set_ (h : QMap w b n f) {a : Addr} (ha : b ≠ a.block) (u : Value) : QMap (w.setCell a u) b n f := by
  obtain ⟨D, hD, h2⟩ := h
  exact ⟨D, hD.setCell ha u, h2⟩
theorem QMap.made (w : World) : QMap (w.alloc (.map #[] 0)) w.heap.size 0 (fun _ => none) :=
  ⟨.map [], World.ownsMap_made _ _ _ _, fun x _ => ⟨by simp [Maps.has], rfl, fun o h => by cases h⟩⟩
theorem inF_zero : inF ((0, 0), 0) := by unfold inF inQ; simp
theorem QMap.congr {f' : Nat × Nat → Option Fr} (h : QMap w b n f) (e : ∀ x, inQ x → f' x = f x) : QMap w b n f' := by
  obtain ⟨D, hD, h2⟩ := h
  exact ⟨D, hD, fun x hx => by rw [e x hx]; exact h2 x hx⟩
theorem QMap.in_ (h : QMap w b n f) {x : Nat × Nat} (hx : inQ x) : inF ((f x).getD ((0, 0), 0)) := by
  obtain ⟨D, hD, h2⟩ := h
  cases e : f x with
  | none => exact inF_zero
  | some o => exact (h2 x hx).2.2 o e
/-- `v, ok := m[x]`. -/
theorem QMap.look2 (h : QMap w b n f) {x : Nat × Nat} (hx : inQ x) : (Instr.lookup 71 (.map (some b)) (qV x) true).run Tryz.prog w = .ok (.tuple #[frV ((f x).getD ((0, 0), 0)), .bool (f x).isSome]) w := by
  have hin := h.in_ hx
  obtain ⟨D, hD, h2⟩ := h
  obtain ⟨v, ps, hrun, hv⟩ := hD.look_ok (t := 71) (e := 70) lawQ Tryz.underlying71 (z := frV ((0, 0), 0)) (by kernel_rfl) (zd := .lit (.int .i64 (frC ((0, 0), 0)))) (zp := []) (frElem_of inF_zero) (qOf hx)
  obtain ⟨e1, e2, _⟩ := h2 x hx
  rw [e2] at hv
  have ev := frElem_inv hin hv
  subst ev
  rw [e1] at hrun
  exact hrun
/-- `m[x]`. -/
theorem QMap.look1 (h : QMap w b n f) {x : Nat × Nat} (hx : inQ x) : (Instr.lookup 71 (.map (some b)) (qV x) false).run Tryz.prog w = .ok (frV ((f x).getD ((0, 0), 0))) w := by
  have hin := h.in_ hx
  obtain ⟨D, hD, h2⟩ := h
  obtain ⟨v, ps, hrun, hv⟩ := hD.lookup (t := 71) (e := 70) lawQ Tryz.underlying71 (z := frV ((0, 0), 0)) (by kernel_rfl) (zd := .lit (.int .i64 (frC ((0, 0), 0)))) (zp := []) (frElem_of inF_zero) (qOf hx)
  rw [(h2 x hx).2.1] at hv
  have ev := frElem_inv hin hv
  rw [hrun, ev]
/-- `m[x] = v`. -/
theorem QMap.put (h : QMap w b n f) {x : Nat × Nat} (hx : inQ x) {o : Fr} (ho : inF o) (hn : n < 1000000) :
    ∃ w', (Instr.mapUpdate 71 (.map (some b)) (qV x) (frV o)).run Tryz.prog w = .ok () w' ∧ QMap w' b (n + 1) (fun y => if y = x then some o else f y) ∧ w.grownBy w' (some b) := by
  obtain ⟨D, hD, h2⟩ := h
  obtain ⟨w', hrun, hD', hg⟩ := hD.update (t := 71) (e := 70) lawQ Tryz.underlying71 (by unfold maxLen; omega) (qOf hx) (val := frV o) (frElem_of ho)
  refine ⟨w', hrun, ⟨_, hD', fun y hy => ?_⟩, hg⟩
  simp only
  by_cases e : y = x
  · subst e
    rw [if_pos rfl]
    exact ⟨by rw [has_put_same hD.isMap (by exact trivial)]; rfl, by rw [atKey_put_same hD.isMap (by exact trivial)]; rfl, fun u hu => by cases hu; exact ho⟩
  · rw [if_neg e]
    exact ⟨by rw [has_put_other (fun q => e (qL_inj hy hx q))]; exact (h2 y hy).1, by rw [atKey_put_other (fun q => e (qL_inj hy hx q))]; exact (h2 y hy).2.1, (h2 y hy).2.2⟩
end
end Go.Proofs.YtkcpfpofimkkiaaGreatDoor
