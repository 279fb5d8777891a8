/- The law Names walked: it returns true. -/
import Derived.Test.YtinejiodnnjpgaaDoorErC
namespace Go.Proofs.YtinejiodnnjpgaaDoor
open Go.RowKit BigFrame
set_option linter.unusedVariables false
set_option linter.unusedSimpArgs false
set_option maxRecDepth 100000

set_option maxHeartbeats 4000000 in
theorem walk_Names (w : World) (E : Nat → Addr) (hE : ErW w w.heap.size E) :
    Calls Tryd.prog 3 #[] w fun e w' => e = .returned (.bool true) ∧ Below w.heap.size w w' := by
  have g0 : w.cell? ⟨0, 0, none⟩ = some (ew (E 0)) := hE.g 0 (by decide)
  have g1 : w.cell? ⟨1, 0, none⟩ = some (ew (E 1)) := hE.g 1 (by decide)
  have g2 : w.cell? ⟨2, 0, none⟩ = some (ew (E 2)) := hE.g 2 (by decide)
  have g3 : w.cell? ⟨3, 0, none⟩ = some (ew (E 3)) := hE.g 3 (by decide)
  have g4 : w.cell? ⟨4, 0, none⟩ = some (ew (E 4)) := hE.g 4 (by decide)
  have g5 : w.cell? ⟨5, 0, none⟩ = some (ew (E 5)) := hE.g 5 (by decide)
  have g6 : w.cell? ⟨6, 0, none⟩ = some (ew (E 6)) := hE.g 6 (by decide)
  obtain ⟨w1, hw1⟩ : ∃ w1, w1 = w.alloc (.cells (seven E).toArray 23) := ⟨_, rfl⟩
  have hb1 : Below w.heap.size w w1 := by rw [hw1]; exact (Below.refl _ w).alloc (Nat.le_refl _) _
  have hs1 : w1.heap.size = w.heap.size + 1 := by rw [hw1]; simp
  have HG := Lib.hid (show ∀ j, j < 7 → w1.cell? ⟨w.heap.size, j, none⟩ = some (ew (E j)) from fun j hj => by rw [hw1]; exact (Blk.new w 23 (seven E)).cell (seven_at E j hj))
  have HE := Lib.hid hE; have HB1 := Lib.hid hb1; have HS1 := Lib.hid hs1
  have hlt : w.heap.size < w1.heap.size := by omega
  have HLT := Lib.hid hlt
  clear hE hb1 hs1
  go_enter Tryd.func3, Tryd.ntmps3
  go_wp2_with fail
  change Code.wp _ _ _ _ (w.alloc (.cells (seven E).toArray 23))
  rw [← hw1]
  clear hw1 g0 g1 g2 g3 g4 g5 g6
  go_loopw [2] (fun x wr => ∃ k : Nat, k ≤ 7 ∧ x = .int .i64 (k : Int) ∧ Hid (Below w1.heap.size w1 wr)) (fun x _ => 7 - (intOf x).toNat)
  case atStart => exact ⟨0, Nat.zero_le _, rfl, Below.refl _ _⟩
  case round =>
    as_aux_lemma =>
      obtain ⟨k, hk, rfl, HB⟩ := hrel
      have hs := HB.out.size
      have hEr := HE.out.below (HB1.out.trans (HB.out.mono HB1.out.size))
      by_cases q : k < 7
      · as_aux_lemma =>
          have zk := (HB.out.cell (p := ⟨w.heap.size, k, none⟩) HLT.out).trans (HG.out k q)
          have HC := Lib.hid (code_err k q wr w.heap.size (Nat.le_trans HB1.out.size hs) E hEr)
          have hd : (((k : Int) + 1) != ((k : Int) + 1)) = false := by simp
          clear hEr
          go_wp2_with fail
          refine HC.out.mono ?_
          rintro e w2 ⟨rfl, hb2⟩
          have HB2 := Lib.hid (HB.out.trans (hb2.mono hs))
          clear hb2
          go_wp2_with fail
          go_roundw
          case rel => exact ⟨k + 1, by omega, by go_num, HB2⟩
          case measure => simp [intOf]; omega
      · as_aux_lemma =>
          have g3 : wr.cell? ⟨3, 0, none⟩ = some (ew (E 3)) := hEr.g 3 (by decide)
          obtain ⟨wf, hwf⟩ : ∃ wf, wf = wr.alloc (.cells #[ew (E 3), .int .i64 7] 29) := ⟨_, rfl⟩
          have hbf : Below wr.heap.size wr wf := by rw [hwf]; exact (Below.refl _ wr).alloc (Nat.le_refl _) _
          have hsf : wr.heap.size < wf.heap.size := by rw [hwf]; simp
          have hblk : Blk wf wr.heap.size 29 [ew (E 3), .int .i64 7] := by rw [hwf]; exact Blk.new _ _ _
          have hw0 : w.heap.size ≤ wr.heap.size := Nat.le_trans HB1.out.size hs
          have HC := Lib.hid (code_fault 3 (by decide) wf w.heap.size (by omega) E (hEr.below (hbf.mono hw0)) wr.heap.size 0 7 hsf (hblk.cell rfl) (hblk.cell rfl))
          have HBF := Lib.hid (HB1.out.trans ((HB.out.trans (hbf.mono hs)).mono HB1.out.size))
          clear hbf hblk hEr
          go_wp2_with fail
          rw [← hwf]
          refine HC.out.mono ?_
          rintro e w2 ⟨rfl, hb2⟩
          have HB2 := Lib.hid (HBF.out.trans (hb2.mono (show w.heap.size ≤ wf.heap.size by omega)))
          clear hb2 HC
          go_wp2_with fail
          refine (code_nil w2).mono ?_
          rintro e w3 ⟨rfl, rfl⟩
          go_wp2_with fail
          go_ret
          exact ⟨rfl, HB2.out⟩
end Go.Proofs.YtinejiodnnjpgaaDoor
