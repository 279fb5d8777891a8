/- The document's SameTree: two trees that read as one. · The law's tabled: it answers true or false, and leaves all as it is. -/
import Derived.Test.YtinejiodnnjpgaaDoorQ27
import Derived.Test.YtinejiodnnjpgaaDoorQ13
import Derived.Test.YtinejiodnnjpgaaDoorQ18
namespace Go.Proofs.YtinejiodnnjpgaaDoor
open Go.RowKit BigFrame
set_option linter.unusedVariables false
set_option linter.unusedSimpArgs false
set_option maxRecDepth 100000

set_option maxHeartbeats 4000000 in
theorem same_node (B N : Nat) (hN : N ≤ 100000000) (ih : ∀ (t : Tr), szT t ≤ N → ∀ (v v2 : Value) (w : World), B ≤ w.heap.size → TrB w B v t → TrB w B v2 t →
    Calls Tryd.prog 22 #[v, v2] w fun e w' => e = .returned (.bool true) ∧ Below w.heap.size w w')
    (p tok : Int) (ks : List Tr) (h : 1 + szL ks ≤ N + 1) (v v2 : Value) (w : World) (hB : B ≤ w.heap.size) (hT : TrB w B v (.node p tok ks)) (hT2 : TrB w B v2 (.node p tok ks)) :
    Calls Tryd.prog 22 #[v, v2] w fun e w' => e = .returned (.bool true) ∧ Below w.heap.size w w' := by
  obtain ⟨b, A, c, rfl, hb, zp, zt, zk, hk1, hk2, hks⟩ := hT.node_inv
  obtain ⟨b2, A2, c2, rfl, hb2, zp2, zt2, zk2, hk3, hk4, hks2⟩ := hT2.node_inv
  have HIH := Lib.hid ih; have HSZ := Lib.hid h; have HKS := Lib.hid hks; have HKS2 := Lib.hid hks2
  have hkl : ks.length ≤ N := by have := szL_len ks; omega
  unfold maxLen at hk2 hk4
  have d1 : ((ks.length : Int) != (ks.length : Int)) = false := by simp
  clear ih h hks hks2 hT hT2
  go_enter Tryd.func22, Tryd.ntmps22
  go_wp2_with fail
  go_quiet (fail)
  rename_i nq _ _
  obtain ⟨w1, hw1⟩ : ∃ w1, w1 = w.drewN nq := ⟨_, rfl⟩
  have HB1 : Hid (Below w.heap.size w w1) := Lib.hid (by rw [hw1]; exact bel_dn _ _ _)
  rw [← hw1]
  have y1 : w1.cell? ⟨b, 2, none⟩ = some (.slice A ks.length c) := by rw [hw1]; exact zk
  have y2 : w1.cell? ⟨b2, 2, none⟩ = some (.slice A2 ks.length c2) := by rw [hw1]; exact zk2
  have HY1 := Lib.hid y1; have HY2 := Lib.hid y2
  clear hw1 zp zt zk zp2 zt2 zk2 d1 y1 y2
  go_wp2_with fail
  go_loopw [5] (fun i wr => ∃ (j : Nat), j ≤ ks.length ∧ i = .int .i64 (j : Int) ∧ Hid (Below w.heap.size w1 wr)) (fun i _ => ks.length - (intOf i).toNat)
  case atStart => exact ⟨0, Nat.zero_le _, rfl, Below.refl _ _⟩
  case round =>
    as_aux_lemma =>
      obtain ⟨j, hj, rfl, HB⟩ := hrel
      have hbw : Below w.heap.size w wr := HB1.out.trans HB.out
      have zk := (HB.out.cell (p := ⟨b, 2, none⟩) (Nat.lt_of_lt_of_le hb hB)).trans HY1.out
      by_cases hlt : j < ks.length
      · as_aux_lemma =>
          obtain ⟨k, hkk⟩ : ∃ k, ks[j]? = some k := ⟨ks[j], List.getElem?_eq_getElem hlt⟩
          obtain ⟨kb, ko, rfl, hkb, hkc⟩ := HKS.out (by omega)
          obtain ⟨u, zu, hu⟩ := hkc j k hkk
          obtain ⟨kb2, ko2, rfl, hkb2, hkc2⟩ := HKS2.out (by omega)
          obtain ⟨u2, zu2, hu2⟩ := hkc2 j k hkk
          have hmem := List.mem_of_getElem? hkk
          have hsz : szT k ≤ N := by
            have h1 := szL_mem hmem
            have h2 := HSZ.out
            omega
          obtain ⟨pu, rfl⟩ := hu.ptr
          obtain ⟨pu2, rfl⟩ := hu2.ptr
          have hbd : Below w.heap.size w wr.drew := hbw.trans ⟨rfl, rfl, rfl, Nat.le_refl _, fun _ _ => rfl⟩
          have HBD := Lib.hid (HB.out.trans (show Below w.heap.size wr wr.drew from ⟨rfl, rfl, rfl, Nat.le_refl _, fun _ _ => rfl⟩))
          obtain ⟨w2, hw2⟩ : ∃ w2, w2 = wr.drew := ⟨_, rfl⟩
          have zk1 : w2.cell? ⟨b, 2, none⟩ = some (.slice (some ⟨kb, ko, none⟩) ks.length c) := by rw [hw2]; exact zk
          have zk2 : w2.cell? ⟨b2, 2, none⟩ = some (.slice (some ⟨kb2, ko2, none⟩) ks.length c2) := by rw [hw2]; exact (HB.out.cell (p := ⟨b2, 2, none⟩) (Nat.lt_of_lt_of_le hb2 hB)).trans HY2.out
          have zu1 : w2.cell? ⟨kb, ko + j, none⟩ = some (.pointer pu) := by rw [hw2]; exact (hbw.cell (p := ⟨kb, ko + j, none⟩) (Nat.lt_of_lt_of_le hkb hB)).trans zu
          have zu3 : w2.cell? ⟨kb2, ko2 + j, none⟩ = some (.pointer pu2) := by rw [hw2]; exact (hbw.cell (p := ⟨kb2, ko2 + j, none⟩) (Nat.lt_of_lt_of_le hkb2 hB)).trans zu2
          have HC := Lib.hid (HIH.out k hsz (.pointer pu) (.pointer pu2) w2 (by rw [hw2]; exact Nat.le_trans hB hbd.size) (by rw [hw2]; exact TrB.below hu (hbd.mono hB)) (by rw [hw2]; exact TrB.below hu2 (hbd.mono hB)))
          have HB2 : Hid (Below w.heap.size w1 w2) := Lib.hid (by rw [hw2]; exact HBD.out)
          clear hkc hkc2 hu hu2 zu zu2 hmem hsz HIH HKS HKS2 HSZ hbw hbd HBD HB
          go_wp2_with fail
          refine wp_region_still_tail 14 (by kernel_rfl) (by kernel_rfl) ?_
          simp only [List.take_succ_cons, List.take_zero, List.drop_succ_cons, List.drop_zero]
          change wpStill _ _ wr.drew (fun a' => wpList _ _ _ _ a' wr.drew) _ _
          rw [← hw2]
          clear hw2 zk
          refine wpStill_of_quiet _ _ ?_
          repeat (first | go_big_quiet_skip | (go_big_quiet_want; go_big_quiet_op; go_big_quiet_on))
          refine wpQuiet_nil ?_
          go_wp2_with fail
          refine HC.out.mono ?_
          rintro e w5 ⟨rfl, hb5⟩
          have HB5 : Hid (Below w.heap.size w1 w5) := Lib.hid (HB2.out.trans (hb5.mono (Nat.le_trans HB1.out.size HB2.out.size)))
          clear hb5
          go_wp2
          go_roundw
          case rel => exact ⟨j + 1, by omega, by go_num, HB5⟩
          case measure => simp [intOf]; omega
      · as_aux_lemma =>
          have hje : j = ks.length := by omega
          subst hje
          have HBW := Lib.hid hbw
          clear hbw
          go_wp2
          go_ret
          exact ⟨rfl, HBW.out⟩
theorem same_nil (w : World) : Calls Tryd.prog 22 #[.pointer none, .pointer none] w fun e w' => e = .returned (.bool true) ∧ Below w.heap.size w w' := by
  go_enter Tryd.func22, Tryd.ntmps22
  go_wp2_with fail
  go_ret
  exact ⟨rfl, Below.refl _ _⟩
theorem same_any (B : Nat) : ∀ (N : Nat), N ≤ 100000000 → ∀ (t : Tr), szT t ≤ N → ∀ (v v2 : Value) (w : World), B ≤ w.heap.size → TrB w B v t → TrB w B v2 t →
    Calls Tryd.prog 22 #[v, v2] w fun e w' => e = .returned (.bool true) ∧ Below w.heap.size w w' := by
  intro N
  induction N with
  | zero => intro _ t h; have := szT_pos t; omega
  | succ N ih =>
    intro hN t h v v2 w hB hT hT2
    cases t with
    | nil =>
      obtain rfl := hT.nil_inv
      obtain rfl := hT2.nil_inv
      exact same_nil w
    | node p tok ks =>
      rw [szT] at h
      exact same_node B N (by omega) (ih (by omega)) p tok ks (by omega) v v2 w hB hT hT2
end Go.Proofs.YtinejiodnnjpgaaDoor
namespace Go.Proofs.YtinejiodnnjpgaaDoor
open Go.RowKit BigFrame
set_option linter.unusedVariables false
set_option linter.unusedSimpArgs false
set_option maxRecDepth 100000

/-- It answers a truth value. -/
def SomeB (e : Ending) : Prop := ∃ b : Bool, e = .returned (.bool b)
theorem someB (b : Bool) : SomeB (.returned (.bool b)) := ⟨b, rfl⟩
set_option maxHeartbeats 2000000 in
theorem tabled_any (T : Tb) (Aa : Option Addr) (na ca : Nat) (Ag : Option Addr) (ng cg : Nat) (vc : Value) (w : World) (B : Nat) (hB : B ≤ w.heap.size) (hT : TbIn w B T Aa na ca Ag ng cg) :
    Calls Tryd.prog 15 #[.agg #[.slice Aa na ca, .slice Ag ng cg, vc]] w fun e w' => SomeB e ∧ Below w.heap.size w w' := by
  obtain ⟨hla, hca, hma⟩ := shL_len hT.a
  obtain ⟨hlg, hcg, hmg⟩ := shL_len hT.g
  obtain ⟨w1, hw1⟩ : ∃ w1, w1 = w.alloc (.cells #[.slice Aa na ca, .slice Ag ng cg, vc] 47) := ⟨_, rfl⟩
  have hb : Below w.heap.size w w1 := by rw [hw1]; exact (Below.refl _ _).alloc (Nat.le_refl _) _
  have hbk : Blk w1 w.heap.size 47 [.slice Aa na ca, .slice Ag ng cg, vc] := by rw [hw1]; exact Blk.new w 47 [.slice Aa na ca, .slice Ag ng cg, vc]
  have HT := Lib.hid (hT.below (hb.mono hB)); have HB := Lib.hid hb; have HK := Lib.hid hbk; have HLT := Lib.hid hbk.lt
  unfold maxLen at hma hmg
  clear hT hla hlg hb hbk
  go_enter Tryd.func15, Tryd.ntmps15
  by_cases q1 : 60 < na
  · as_aux_lemma =>
      go_wp2_with fail
      go_ret
      exact ⟨someB _, by rw [← hw1]; exact HB.out⟩
  by_cases q2 : 60 < ng
  · as_aux_lemma =>
      go_wp2_with fail
      go_ret
      exact ⟨someB _, by rw [← hw1]; exact HB.out⟩
  go_wp2_with fail
  rw [← hw1]
  clear hw1
  go_loopw [3] (fun i wr => ∃ (j : Nat), j ≤ na ∧ i = .int .i64 (j : Int) ∧ Hid (Below w1.heap.size w1 wr)) (fun i _ => na - (intOf i).toNat)
  case atStart => exact ⟨0, Nat.zero_le _, rfl, Below.refl _ _⟩
  case round =>
    as_aux_lemma =>
      obtain ⟨j, hj, rfl, HR⟩ := hrel
      have z0 := (HR.out.cell (p := ⟨w.heap.size, 0, none⟩) HLT.out).trans (HK.out.cell (i := 0) rfl)
      have HF : Hid (Below w.heap.size w wr) := Lib.hid (HB.out.trans (HR.out.mono HB.out.size))
      by_cases hlt : j < na
      · as_aux_lemma =>
          have ta := HT.out.a
          obtain ⟨ab, ao, rfl, hab, hac⟩ := ta.at_ (by omega)
          obtain ⟨A1, n1, cc1, x1, x2, x3, x4, x5⟩ := hac j hlt
          have x1' := (HR.out.cell (p := ⟨ab, ao + j, none⟩) (by have := HLT.out; show ab < _; omega)).trans x1
          unfold maxLen at x4
          clear ta hac x1 x2 x5 HT
          by_cases q : 10 < n1
          · go_wp2_with fail
            go_ret
            exact ⟨someB _, HF.out⟩
          · go_wp2_with fail
            go_roundw
            case rel => exact ⟨j + 1, by omega, by go_num, HR⟩
            case measure => simp [intOf]; omega
      · as_aux_lemma =>
          have z1 := (HR.out.cell (p := ⟨w.heap.size, 1, none⟩) HLT.out).trans (HK.out.cell (i := 1) rfl)
          go_wp2_with fail
          obtain ⟨wo, rfl⟩ : ∃ wo : World, wo = wr := ⟨_, rfl⟩
          go_loopw [4] (fun i wr => ∃ (j : Nat), j ≤ ng ∧ i = .int .i64 (j : Int) ∧ Hid (Below w1.heap.size w1 wr)) (fun i _ => ng - (intOf i).toNat)
          case atStart => exact ⟨0, Nat.zero_le _, rfl, HR⟩
          case round =>
            as_aux_lemma =>
              obtain ⟨k, hk, rfl, HR2⟩ := hrel
              have z2 := (HR2.out.cell (p := ⟨w.heap.size, 1, none⟩) HLT.out).trans (HK.out.cell (i := 1) rfl)
              have HF2 : Hid (Below w.heap.size w wr) := Lib.hid (HB.out.trans (HR2.out.mono HB.out.size))
              by_cases hlk : k < ng
              · as_aux_lemma =>
                  have tg := HT.out.g
                  obtain ⟨ab, ao, rfl, hab, hac⟩ := tg.at_ (by omega)
                  obtain ⟨A1, n1, cc1, x1, x2, x3, x4, x5⟩ := hac k hlk
                  have x1' := (HR2.out.cell (p := ⟨ab, ao + k, none⟩) (by have := HLT.out; show ab < _; omega)).trans x1
                  unfold maxLen at x4
                  clear tg hac x1 x2 x5 HT
                  by_cases q : 10 < n1
                  · go_wp2_with fail
                    go_ret
                    exact ⟨someB _, HF2.out⟩
                  · go_wp2_with fail
                    go_roundw
                    case rel => exact ⟨k + 1, by omega, by go_num, HR2⟩
                    case measure => simp [intOf]; omega
              · as_aux_lemma =>
                  go_wp2_with fail
                  go_ret
                  exact ⟨someB _, HF2.out⟩
end Go.Proofs.YtinejiodnnjpgaaDoor
