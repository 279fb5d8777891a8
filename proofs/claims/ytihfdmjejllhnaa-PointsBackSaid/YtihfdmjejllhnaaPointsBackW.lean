/- The law PointsBack walked: it returns true. -/
import Derived.Test.YtihfdmjejllhnaaPtC
import Derived.Test.YtihfdmjejllhnaaPtW
namespace Go.Proofs.Ytihfdmjejllhnaa
open Go.RowKit
set_option linter.unusedVariables false
set_option linter.unusedSimpArgs false
set_option maxRecDepth 100000

theorem walk_PointsBack (w : World) (s : ByteArray) (hs : s.size ≤ maxLen) :
    Calls Try.prog 4 #[.string s] w fun e w' => e = .returned (.bool true) ∧ Below w.heap.size w w' := by
  have hm := hs
  unfold maxLen at hm
  have hw := whole_any s w hs
  have hwb : wh s 0 = true → strOfNums (txtZ (pts s 0)) = s := fun h => by rw [pts_back s s.size 0 (by omega) h]; exact bytesFrom_all s
  have hlen := pts_len s s.size 0 (by omega)
  obtain ⟨b, hb⟩ : ∃ b, b = wh s 0 := ⟨_, rfl⟩
  rw [← hb] at hw hwb
  have HW := Lib.hid hw; clear hw
  have HB := Lib.hid hwb; clear hwb hb
  simp only [Nat.sub_zero] at hlen
  have hl1 := hlen.1; have hl2 := hlen.2; clear hlen
  by_cases h1 : 2000 < s.size
  · go_enter Try.func4, Try.ntmps4
    go_wp2_with (go_at_call 13; refine HW.out.mono ?_; rintro e w' ⟨rfl, rfl⟩)
    go_ret
    exact ⟨rfl, Below.refl _ _⟩
  cases b
  · go_enter Try.func4, Try.ntmps4
    go_wp2_with (go_at_call 13; refine HW.out.mono ?_; rintro e w' ⟨rfl, rfl⟩)
    go_ret
    exact ⟨rfl, Below.refl _ _⟩
  go_enter Try.func4, Try.ntmps4
  go_wp2_with (go_at_call 13; refine HW.out.mono ?_; rintro e w' ⟨rfl, rfl⟩)
  refine (points_any s _ (by omega) (by omega)).mono ?_
  rintro e w1 ⟨v1, rfl, hown1, hb1⟩
  obtain ⟨A1, c1, rfl, hc1, hm1, hr1⟩ := own_form hown1
  clear hown1
  have hz1 := hb1.size
  obtain ⟨l, hl⟩ : ∃ l, l = pts s 0 := ⟨_, rfl⟩
  rw [← hl] at hr1 hl1 hl2 hc1 HB
  rw [← hl]
  have HL := Lib.hid hl; clear hl
  go_wp2_with fail
  refine (text_any A1 c1 _ l _ _ hr1 rfl (by omega) (Nat.le_refl _)).mono ?_
  rintro e w2 ⟨rfl, hb2⟩
  rw [HB.out trivial]
  go_wp2
  go_ret
  exact ⟨ret_eq (show Value.bool (decide ((s.size : Int) ≤ 4 * (l.length : Int))) = .bool true from by rw [decide_eq_true (by omega)]), hb1.trans (hb2.mono hz1)⟩
end Go.Proofs.Ytihfdmjejllhnaa
