/- The law PointsTurned walked: it returns true. -/
import Derived.Test.YtihfdmjejllhnaaPtC
import Derived.Test.YtihfdmjejllhnaaTxC
import Derived.Test.YtihfdmjejllhnaaInts
import Derived.Test.YtihfdmjejllhnaaOpen
namespace Go.Proofs.Ytihfdmjejllhnaa
open Go.RowKit
set_option linter.unusedVariables false
set_option linter.unusedSimpArgs false
set_option maxRecDepth 100000

theorem walk_PointsTurned (w : World) (s : ByteArray) (hs : s.size ≤ maxLen) (v : Value) (hv : IsInts w v) :
    Calls Try.prog 3 #[.string s, v] w fun e w' => e = .returned (.bool true) ∧ Below w.heap.size w w' := by
  obtain ⟨A, n, c, l, rfl, hl, hnc, hc, hR, hwf⟩ := hv
  have hm := hs
  unfold maxLen at hm hc
  by_cases h1 : 2000 < s.size
  · clear hR hl hwf
    go_enter Try.func3, Try.ntmps3
    go_wp2
    go_ret
    exact ⟨rfl, Below.refl _ _⟩
  by_cases h2 : 2000 < n
  · clear hR hl hwf
    go_enter Try.func3, Try.ntmps3
    go_wp2
    go_ret
    exact ⟨rfl, Below.refl _ _⟩
  have Hl := Lib.hid hl
  have Hw := Lib.hid hwf
  clear hl hwf
  go_enter Try.func3, Try.ntmps3
  go_wp2_with (go_at_call 8; refine (points_any s _ (by omega) (by omega)).mono ?_; rintro e w1 ⟨v1, rfl, hown1, hb1⟩)
  obtain ⟨A1, c1, rfl, hc1, hm1, hr1⟩ := own_form hown1
  refine (r1Points_any s _ (by omega) (by omega)).mono ?_
  rintro e w2 ⟨v2, rfl, hown2, hb2⟩
  obtain ⟨A2, c2, rfl, hc2, hm2, hr2⟩ := own_form hown2
  clear hown1 hown2
  go_wp2_with fail
  have hz1 := hb1.size
  have hz2 := hb2.size
  refine (sameInts_any A1 A2 c1 c2 _ _ (pts s 0) (pts s 0) w2 w2.heap.size (Rd.more (Rd.below hr1 hb2) hz2) hr2 rfl rfl (by omega)).mono ?_
  rintro e w3 ⟨rfl, d, rfl⟩
  rw [show decide (pts s 0 = pts s 0) = true from by simp]
  have hb3 : Below w.heap.size w (w2.drewN d) := (hb1.trans (hb2.mono hz1)).trans ⟨rfl, rfl, rfl, Nat.le_refl _, fun _ _ => rfl⟩
  have hR3 : RdI (w2.drewN d) w.heap.size A l := hR.below hb3
  have hz3 := hb3.size
  generalize w2.drewN d = W3 at *
  clear hr1 hr2 hb1 hb2
  go_wp2_with fail
  refine (text_any A c n l _ w.heap.size hR3 Hl.out (by omega) hz3).mono ?_
  rintro e w4 ⟨rfl, hb4⟩
  have hb5 : Below w.heap.size w w4 := hb3.trans (hb4.mono hz3)
  have hz5 := hb5.size
  go_wp2_with fail
  refine (r1Text_any A c n l _ w.heap.size (hR.below hb5) Hl.out (by omega) hz5).mono ?_
  rintro e w6 ⟨rfl, hb6⟩
  go_wp2
  go_ret
  exact ⟨rfl, hb5.trans (hb6.mono hz5)⟩
end Go.Proofs.Ytihfdmjejllhnaa
