/- The contracts of ref1.follow and ref1.Point: a byte that goes on a code point; the code point at a byte. -/
import Derived.Test.YtihfdmjejllhnaaProg
import Derived.Test.YtihfdmjejllhnaaPtP
import Derived.Handy
import Derived.WalkKit
import Derived.WalkSpells
import Derived.WalkLawsBesides
import Derived.Lib.Hide
import Derived.Deep.QuietTactic
import Derived.BigQuiet
namespace Go.Proofs.Ytihfdmjejllhnaa
open Go.RowKit
set_option linter.unusedVariables false
set_option linter.unusedSimpArgs false

theorem follow_any (s : ByteArray) (k : Nat) (lo hi : Int) (w : World) (hs : s.size ≤ maxLen) :
    Calls Try.prog 50 #[.string s, .int .i64 k, .int .i64 lo, .int .i64 hi] w fun e w' => e = .returned (.bool (folB s k lo hi)) ∧ w = w' := by
  unfold maxLen at hs
  by_cases h0 : k < s.size
  · have hb := byt_get s k h0
    have hl := byt_lo s k
    have hh := byt_hi s k
    by_cases h1 : lo ≤ byt s k
    · by_cases h2 : byt s k ≤ hi
      · have he : folB s k lo hi = true := by simp [folB, h0, h1, h2]
        have HE := Lib.hid he; clear he
        go_enter Try.func50, Try.ntmps50
        go_wp2
        go_ret
        exact ⟨by rw [HE.out]; rfl, rfl⟩
      · have he : folB s k lo hi = false := by simp [folB, h0, h1, h2]
        have HE := Lib.hid he; clear he
        go_enter Try.func50, Try.ntmps50
        go_wp2
        go_ret
        exact ⟨by rw [HE.out]; rfl, rfl⟩
    · have he : folB s k lo hi = false := by simp [folB, h0, h1]
      have HE := Lib.hid he; clear he
      go_enter Try.func50, Try.ntmps50
      go_wp2
      go_ret
      exact ⟨by rw [HE.out]; rfl, rfl⟩
  · have he : folB s k lo hi = false := by simp [folB, h0]
    have HE := Lib.hid he; clear he
    go_enter Try.func50, Try.ntmps50
    go_wp2
    go_ret
    exact ⟨by rw [HE.out]; rfl, rfl⟩

theorem follow_at (s : ByteArray) (j : Nat) (a lo hi : Int) (b : Bool) (w : World) (hs : s.size ≤ maxLen) (ha : a = j) (hb : folB s j lo hi = b) :
    Calls Try.prog 50 #[.string s, .int .i64 a, .int .i64 lo, .int .i64 hi] w fun e w' => e = .returned (.bool b) ∧ w = w' := by
  subst ha; subst hb
  exact follow_any s j lo hi w hs

theorem point_one (s : ByteArray) (k : Nat) (w : World) (hs : s.size ≤ maxLen) (h : k < s.size) (c : byt s k < 128) :
    Calls Try.prog 33 #[.string s, .int .i64 k] w fun e w' => e = .returned (.tuple #[.int .i64 (byt s k), .int .i64 1, .bool true]) ∧ w = w' := by
  have hm := hs
  unfold maxLen at hm
  have hb := byt_get s k h
  have hl := byt_lo s k; have hh := byt_hi s k
  go_enter Try.func33, Try.ntmps33
  go_wp2_with fail
  go_ret3
  exact ⟨rfl, rfl⟩

theorem point_bad (s : ByteArray) (k : Nat) (w : World) (hs : s.size ≤ maxLen) (h : k < s.size) (c : 128 ≤ byt s k) (d : byt s k < 194) :
    Calls Try.prog 33 #[.string s, .int .i64 k] w fun e w' => e = .returned (.tuple #[.int .i64 65533, .int .i64 1, .bool false]) ∧ w = w' := by
  have hm := hs
  unfold maxLen at hm
  have hb := byt_get s k h
  have hl := byt_lo s k; have hh := byt_hi s k
  go_enter Try.func33, Try.ntmps33
  go_wp2_with fail
  refine wp_loop_rounds 1 ?_
  rw [rounds_succ]
  go_wp2_with fail
  go_ret3
  exact ⟨rfl, rfl⟩

theorem point_big (s : ByteArray) (k : Nat) (w : World) (hs : s.size ≤ maxLen) (h : k < s.size) (c : 245 ≤ byt s k) :
    Calls Try.prog 33 #[.string s, .int .i64 k] w fun e w' => e = .returned (.tuple #[.int .i64 65533, .int .i64 1, .bool false]) ∧ w = w' := by
  have hm := hs
  unfold maxLen at hm
  have hb := byt_get s k h
  have hl := byt_lo s k; have hh := byt_hi s k
  go_enter Try.func33, Try.ntmps33
  go_wp2_with fail
  refine wp_loop_rounds 1 ?_
  rw [rounds_succ]
  go_wp2_with fail
  go_ret3
  exact ⟨rfl, rfl⟩

theorem point_two_no (s : ByteArray) (k : Nat) (w : World) (hs : s.size ≤ maxLen) (h : k < s.size) (c : 194 ≤ byt s k) (d : byt s k < 224) (f1 : folB s (k + 1) 128 191 = false) :
    Calls Try.prog 33 #[.string s, .int .i64 k] w fun e w' => e = .returned (.tuple #[.int .i64 65533, .int .i64 1, .bool false]) ∧ w = w' := by
  have hm := hs
  unfold maxLen at hm
  have hb := byt_get s k h
  have hl := byt_lo s k; have hh := byt_hi s k
  have f1 := Lib.hid f1
  go_enter Try.func33, Try.ntmps33
  go_wp2_with (go_at_call 50; refine (follow_at s (k + 1) _ _ _ false _ hs (by omega) f1.out).mono ?_; rintro e w' ⟨rfl, rfl⟩)
  refine wp_loop_rounds 1 ?_
  rw [rounds_succ]
  go_wp2_with fail
  go_ret3
  exact ⟨rfl, rfl⟩

theorem point_two (s : ByteArray) (k : Nat) (w : World) (hs : s.size ≤ maxLen) (h : k < s.size) (c : 194 ≤ byt s k) (d : byt s k < 224) (f1 : folB s (k + 1) 128 191 = true) :
    Calls Try.prog 33 #[.string s, .int .i64 k] w fun e w' => e = .returned (.tuple #[.int .i64 ((byt s k - 192) * 64 + byt s (k + 1) - 128), .int .i64 2, .bool true]) ∧ w = w' := by
  have hm := hs
  unfold maxLen at hm
  have hb := byt_get s k h
  have hl := byt_lo s k; have hh := byt_hi s k
  have hg1 := byt_get s (k + 1) (folB_iff.1 f1).1; have hlt1 := (folB_iff.1 f1).1; have hb1 := (folB_iff.1 f1).2.1; have hc1 := (folB_iff.1 f1).2.2
  have f1 := Lib.hid f1
  go_enter Try.func33, Try.ntmps33
  go_wp2_with (go_at_call 50; refine (follow_at s (k + 1) _ _ _ true _ hs (by omega) f1.out).mono ?_; rintro e w' ⟨rfl, rfl⟩)
  refine wp_loop_rounds 1 ?_
  rw [rounds_succ]
  go_wp2_with fail
  refine wp_loop_rounds 2 ?_
  rw [rounds_succ]
  go_wp2
  rw [rounds_succ]
  go_wp2
  go_ret3
  exact ⟨rfl, rfl⟩

theorem point_three_no1a (s : ByteArray) (k : Nat) (w : World) (hs : s.size ≤ maxLen) (h : k < s.size) (c : 224 ≤ byt s k) (d : byt s k ≤ 224) (f1 : folB s (k + 1) 160 191 = false) :
    Calls Try.prog 33 #[.string s, .int .i64 k] w fun e w' => e = .returned (.tuple #[.int .i64 65533, .int .i64 1, .bool false]) ∧ w = w' := by
  have hm := hs
  unfold maxLen at hm
  have hb := byt_get s k h
  have hl := byt_lo s k; have hh := byt_hi s k
  have f1 := Lib.hid f1
  go_enter Try.func33, Try.ntmps33
  go_wp2_with (go_at_call 50; refine (follow_at s (k + 1) _ _ _ false _ hs (by omega) f1.out).mono ?_; rintro e w' ⟨rfl, rfl⟩)
  refine wp_loop_rounds 1 ?_
  rw [rounds_succ]
  go_wp2_with fail
  go_ret3
  exact ⟨rfl, rfl⟩

theorem point_three_no2a (s : ByteArray) (k : Nat) (w : World) (hs : s.size ≤ maxLen) (h : k < s.size) (c : 224 ≤ byt s k) (d : byt s k ≤ 224) (f1 : folB s (k + 1) 160 191 = true) (f2 : folB s (k + 2) 128 191 = false) :
    Calls Try.prog 33 #[.string s, .int .i64 k] w fun e w' => e = .returned (.tuple #[.int .i64 65533, .int .i64 1, .bool false]) ∧ w = w' := by
  have hm := hs
  unfold maxLen at hm
  have hb := byt_get s k h
  have hl := byt_lo s k; have hh := byt_hi s k
  have hg1 := byt_get s (k + 1) (folB_iff.1 f1).1; have hlt1 := (folB_iff.1 f1).1; have hb1 := (folB_iff.1 f1).2.1; have hc1 := (folB_iff.1 f1).2.2
  have f1 := Lib.hid f1
  have f2 := Lib.hid f2
  go_enter Try.func33, Try.ntmps33
  go_wp2_with (go_at_call 50; refine (follow_at s (k + 1) _ _ _ true _ hs (by omega) f1.out).mono ?_; rintro e w' ⟨rfl, rfl⟩)
  refine wp_loop_rounds 2 ?_
  rw [rounds_succ]
  go_wp2_with (go_at_call 50; refine (follow_at s (k + 2) _ _ _ false _ hs (by omega) f2.out).mono ?_; rintro e w' ⟨rfl, rfl⟩)
  rw [rounds_succ]
  go_wp2_with fail
  go_ret3
  exact ⟨rfl, rfl⟩

theorem point_threea (s : ByteArray) (k : Nat) (w : World) (hs : s.size ≤ maxLen) (h : k < s.size) (c : 224 ≤ byt s k) (d : byt s k ≤ 224) (f1 : folB s (k + 1) 160 191 = true) (f2 : folB s (k + 2) 128 191 = true) :
    Calls Try.prog 33 #[.string s, .int .i64 k] w fun e w' => e = .returned (.tuple #[.int .i64 (((byt s k - 224) * 64 + byt s (k + 1) - 128) * 64 + byt s (k + 2) - 128), .int .i64 3, .bool true]) ∧ w = w' := by
  have hm := hs
  unfold maxLen at hm
  have hb := byt_get s k h
  have hl := byt_lo s k; have hh := byt_hi s k
  have hg1 := byt_get s (k + 1) (folB_iff.1 f1).1; have hlt1 := (folB_iff.1 f1).1; have hb1 := (folB_iff.1 f1).2.1; have hc1 := (folB_iff.1 f1).2.2
  have hg2 := byt_get s (k + 2) (folB_iff.1 f2).1; have hlt2 := (folB_iff.1 f2).1; have hb2 := (folB_iff.1 f2).2.1; have hc2 := (folB_iff.1 f2).2.2
  have f1 := Lib.hid f1
  have f2 := Lib.hid f2
  go_enter Try.func33, Try.ntmps33
  go_wp2_with (go_at_call 50; refine (follow_at s (k + 1) _ _ _ true _ hs (by omega) f1.out).mono ?_; rintro e w' ⟨rfl, rfl⟩)
  refine wp_loop_rounds 2 ?_
  rw [rounds_succ]
  go_wp2_with (go_at_call 50; refine (follow_at s (k + 2) _ _ _ true _ hs (by omega) f2.out).mono ?_; rintro e w' ⟨rfl, rfl⟩)
  rw [rounds_succ]
  go_wp2_with fail
  refine wp_loop_rounds 3 ?_
  rw [rounds_succ]
  go_wp2
  rw [rounds_succ]
  go_wp2
  rw [rounds_succ]
  go_wp2
  go_ret3
  exact ⟨rfl, rfl⟩

theorem point_three_no1b (s : ByteArray) (k : Nat) (w : World) (hs : s.size ≤ maxLen) (h : k < s.size) (c : 225 ≤ byt s k) (d : byt s k ≤ 236) (f1 : folB s (k + 1) 128 191 = false) :
    Calls Try.prog 33 #[.string s, .int .i64 k] w fun e w' => e = .returned (.tuple #[.int .i64 65533, .int .i64 1, .bool false]) ∧ w = w' := by
  have hm := hs
  unfold maxLen at hm
  have hb := byt_get s k h
  have hl := byt_lo s k; have hh := byt_hi s k
  have f1 := Lib.hid f1
  go_enter Try.func33, Try.ntmps33
  go_wp2_with (go_at_call 50; refine (follow_at s (k + 1) _ _ _ false _ hs (by omega) f1.out).mono ?_; rintro e w' ⟨rfl, rfl⟩)
  refine wp_loop_rounds 1 ?_
  rw [rounds_succ]
  go_wp2_with fail
  go_ret3
  exact ⟨rfl, rfl⟩

theorem point_three_no2b (s : ByteArray) (k : Nat) (w : World) (hs : s.size ≤ maxLen) (h : k < s.size) (c : 225 ≤ byt s k) (d : byt s k ≤ 236) (f1 : folB s (k + 1) 128 191 = true) (f2 : folB s (k + 2) 128 191 = false) :
    Calls Try.prog 33 #[.string s, .int .i64 k] w fun e w' => e = .returned (.tuple #[.int .i64 65533, .int .i64 1, .bool false]) ∧ w = w' := by
  have hm := hs
  unfold maxLen at hm
  have hb := byt_get s k h
  have hl := byt_lo s k; have hh := byt_hi s k
  have hg1 := byt_get s (k + 1) (folB_iff.1 f1).1; have hlt1 := (folB_iff.1 f1).1; have hb1 := (folB_iff.1 f1).2.1; have hc1 := (folB_iff.1 f1).2.2
  have f1 := Lib.hid f1
  have f2 := Lib.hid f2
  go_enter Try.func33, Try.ntmps33
  go_wp2_with (go_at_call 50; refine (follow_at s (k + 1) _ _ _ true _ hs (by omega) f1.out).mono ?_; rintro e w' ⟨rfl, rfl⟩)
  refine wp_loop_rounds 2 ?_
  rw [rounds_succ]
  go_wp2_with (go_at_call 50; refine (follow_at s (k + 2) _ _ _ false _ hs (by omega) f2.out).mono ?_; rintro e w' ⟨rfl, rfl⟩)
  rw [rounds_succ]
  go_wp2_with fail
  go_ret3
  exact ⟨rfl, rfl⟩

theorem point_threeb (s : ByteArray) (k : Nat) (w : World) (hs : s.size ≤ maxLen) (h : k < s.size) (c : 225 ≤ byt s k) (d : byt s k ≤ 236) (f1 : folB s (k + 1) 128 191 = true) (f2 : folB s (k + 2) 128 191 = true) :
    Calls Try.prog 33 #[.string s, .int .i64 k] w fun e w' => e = .returned (.tuple #[.int .i64 (((byt s k - 224) * 64 + byt s (k + 1) - 128) * 64 + byt s (k + 2) - 128), .int .i64 3, .bool true]) ∧ w = w' := by
  have hm := hs
  unfold maxLen at hm
  have hb := byt_get s k h
  have hl := byt_lo s k; have hh := byt_hi s k
  have hg1 := byt_get s (k + 1) (folB_iff.1 f1).1; have hlt1 := (folB_iff.1 f1).1; have hb1 := (folB_iff.1 f1).2.1; have hc1 := (folB_iff.1 f1).2.2
  have hg2 := byt_get s (k + 2) (folB_iff.1 f2).1; have hlt2 := (folB_iff.1 f2).1; have hb2 := (folB_iff.1 f2).2.1; have hc2 := (folB_iff.1 f2).2.2
  have f1 := Lib.hid f1
  have f2 := Lib.hid f2
  go_enter Try.func33, Try.ntmps33
  go_wp2_with (go_at_call 50; refine (follow_at s (k + 1) _ _ _ true _ hs (by omega) f1.out).mono ?_; rintro e w' ⟨rfl, rfl⟩)
  refine wp_loop_rounds 2 ?_
  rw [rounds_succ]
  go_wp2_with (go_at_call 50; refine (follow_at s (k + 2) _ _ _ true _ hs (by omega) f2.out).mono ?_; rintro e w' ⟨rfl, rfl⟩)
  rw [rounds_succ]
  go_wp2_with fail
  refine wp_loop_rounds 3 ?_
  rw [rounds_succ]
  go_wp2
  rw [rounds_succ]
  go_wp2
  rw [rounds_succ]
  go_wp2
  go_ret3
  exact ⟨rfl, rfl⟩

theorem point_three_no1c (s : ByteArray) (k : Nat) (w : World) (hs : s.size ≤ maxLen) (h : k < s.size) (c : 237 ≤ byt s k) (d : byt s k ≤ 237) (f1 : folB s (k + 1) 128 159 = false) :
    Calls Try.prog 33 #[.string s, .int .i64 k] w fun e w' => e = .returned (.tuple #[.int .i64 65533, .int .i64 1, .bool false]) ∧ w = w' := by
  have hm := hs
  unfold maxLen at hm
  have hb := byt_get s k h
  have hl := byt_lo s k; have hh := byt_hi s k
  have f1 := Lib.hid f1
  go_enter Try.func33, Try.ntmps33
  go_wp2_with (go_at_call 50; refine (follow_at s (k + 1) _ _ _ false _ hs (by omega) f1.out).mono ?_; rintro e w' ⟨rfl, rfl⟩)
  refine wp_loop_rounds 1 ?_
  rw [rounds_succ]
  go_wp2_with fail
  go_ret3
  exact ⟨rfl, rfl⟩

theorem point_three_no2c (s : ByteArray) (k : Nat) (w : World) (hs : s.size ≤ maxLen) (h : k < s.size) (c : 237 ≤ byt s k) (d : byt s k ≤ 237) (f1 : folB s (k + 1) 128 159 = true) (f2 : folB s (k + 2) 128 191 = false) :
    Calls Try.prog 33 #[.string s, .int .i64 k] w fun e w' => e = .returned (.tuple #[.int .i64 65533, .int .i64 1, .bool false]) ∧ w = w' := by
  have hm := hs
  unfold maxLen at hm
  have hb := byt_get s k h
  have hl := byt_lo s k; have hh := byt_hi s k
  have hg1 := byt_get s (k + 1) (folB_iff.1 f1).1; have hlt1 := (folB_iff.1 f1).1; have hb1 := (folB_iff.1 f1).2.1; have hc1 := (folB_iff.1 f1).2.2
  have f1 := Lib.hid f1
  have f2 := Lib.hid f2
  go_enter Try.func33, Try.ntmps33
  go_wp2_with (go_at_call 50; refine (follow_at s (k + 1) _ _ _ true _ hs (by omega) f1.out).mono ?_; rintro e w' ⟨rfl, rfl⟩)
  refine wp_loop_rounds 2 ?_
  rw [rounds_succ]
  go_wp2_with (go_at_call 50; refine (follow_at s (k + 2) _ _ _ false _ hs (by omega) f2.out).mono ?_; rintro e w' ⟨rfl, rfl⟩)
  rw [rounds_succ]
  go_wp2_with fail
  go_ret3
  exact ⟨rfl, rfl⟩

theorem point_threec (s : ByteArray) (k : Nat) (w : World) (hs : s.size ≤ maxLen) (h : k < s.size) (c : 237 ≤ byt s k) (d : byt s k ≤ 237) (f1 : folB s (k + 1) 128 159 = true) (f2 : folB s (k + 2) 128 191 = true) :
    Calls Try.prog 33 #[.string s, .int .i64 k] w fun e w' => e = .returned (.tuple #[.int .i64 (((byt s k - 224) * 64 + byt s (k + 1) - 128) * 64 + byt s (k + 2) - 128), .int .i64 3, .bool true]) ∧ w = w' := by
  have hm := hs
  unfold maxLen at hm
  have hb := byt_get s k h
  have hl := byt_lo s k; have hh := byt_hi s k
  have hg1 := byt_get s (k + 1) (folB_iff.1 f1).1; have hlt1 := (folB_iff.1 f1).1; have hb1 := (folB_iff.1 f1).2.1; have hc1 := (folB_iff.1 f1).2.2
  have hg2 := byt_get s (k + 2) (folB_iff.1 f2).1; have hlt2 := (folB_iff.1 f2).1; have hb2 := (folB_iff.1 f2).2.1; have hc2 := (folB_iff.1 f2).2.2
  have f1 := Lib.hid f1
  have f2 := Lib.hid f2
  go_enter Try.func33, Try.ntmps33
  go_wp2_with (go_at_call 50; refine (follow_at s (k + 1) _ _ _ true _ hs (by omega) f1.out).mono ?_; rintro e w' ⟨rfl, rfl⟩)
  refine wp_loop_rounds 2 ?_
  rw [rounds_succ]
  go_wp2_with (go_at_call 50; refine (follow_at s (k + 2) _ _ _ true _ hs (by omega) f2.out).mono ?_; rintro e w' ⟨rfl, rfl⟩)
  rw [rounds_succ]
  go_wp2_with fail
  refine wp_loop_rounds 3 ?_
  rw [rounds_succ]
  go_wp2
  rw [rounds_succ]
  go_wp2
  rw [rounds_succ]
  go_wp2
  go_ret3
  exact ⟨rfl, rfl⟩

theorem point_three_no1d (s : ByteArray) (k : Nat) (w : World) (hs : s.size ≤ maxLen) (h : k < s.size) (c : 238 ≤ byt s k) (d : byt s k ≤ 239) (f1 : folB s (k + 1) 128 191 = false) :
    Calls Try.prog 33 #[.string s, .int .i64 k] w fun e w' => e = .returned (.tuple #[.int .i64 65533, .int .i64 1, .bool false]) ∧ w = w' := by
  have hm := hs
  unfold maxLen at hm
  have hb := byt_get s k h
  have hl := byt_lo s k; have hh := byt_hi s k
  have f1 := Lib.hid f1
  go_enter Try.func33, Try.ntmps33
  go_wp2_with (go_at_call 50; refine (follow_at s (k + 1) _ _ _ false _ hs (by omega) f1.out).mono ?_; rintro e w' ⟨rfl, rfl⟩)
  refine wp_loop_rounds 1 ?_
  rw [rounds_succ]
  go_wp2_with fail
  go_ret3
  exact ⟨rfl, rfl⟩

theorem point_three_no2d (s : ByteArray) (k : Nat) (w : World) (hs : s.size ≤ maxLen) (h : k < s.size) (c : 238 ≤ byt s k) (d : byt s k ≤ 239) (f1 : folB s (k + 1) 128 191 = true) (f2 : folB s (k + 2) 128 191 = false) :
    Calls Try.prog 33 #[.string s, .int .i64 k] w fun e w' => e = .returned (.tuple #[.int .i64 65533, .int .i64 1, .bool false]) ∧ w = w' := by
  have hm := hs
  unfold maxLen at hm
  have hb := byt_get s k h
  have hl := byt_lo s k; have hh := byt_hi s k
  have hg1 := byt_get s (k + 1) (folB_iff.1 f1).1; have hlt1 := (folB_iff.1 f1).1; have hb1 := (folB_iff.1 f1).2.1; have hc1 := (folB_iff.1 f1).2.2
  have f1 := Lib.hid f1
  have f2 := Lib.hid f2
  go_enter Try.func33, Try.ntmps33
  go_wp2_with (go_at_call 50; refine (follow_at s (k + 1) _ _ _ true _ hs (by omega) f1.out).mono ?_; rintro e w' ⟨rfl, rfl⟩)
  refine wp_loop_rounds 2 ?_
  rw [rounds_succ]
  go_wp2_with (go_at_call 50; refine (follow_at s (k + 2) _ _ _ false _ hs (by omega) f2.out).mono ?_; rintro e w' ⟨rfl, rfl⟩)
  rw [rounds_succ]
  go_wp2_with fail
  go_ret3
  exact ⟨rfl, rfl⟩

theorem point_threed (s : ByteArray) (k : Nat) (w : World) (hs : s.size ≤ maxLen) (h : k < s.size) (c : 238 ≤ byt s k) (d : byt s k ≤ 239) (f1 : folB s (k + 1) 128 191 = true) (f2 : folB s (k + 2) 128 191 = true) :
    Calls Try.prog 33 #[.string s, .int .i64 k] w fun e w' => e = .returned (.tuple #[.int .i64 (((byt s k - 224) * 64 + byt s (k + 1) - 128) * 64 + byt s (k + 2) - 128), .int .i64 3, .bool true]) ∧ w = w' := by
  have hm := hs
  unfold maxLen at hm
  have hb := byt_get s k h
  have hl := byt_lo s k; have hh := byt_hi s k
  have hg1 := byt_get s (k + 1) (folB_iff.1 f1).1; have hlt1 := (folB_iff.1 f1).1; have hb1 := (folB_iff.1 f1).2.1; have hc1 := (folB_iff.1 f1).2.2
  have hg2 := byt_get s (k + 2) (folB_iff.1 f2).1; have hlt2 := (folB_iff.1 f2).1; have hb2 := (folB_iff.1 f2).2.1; have hc2 := (folB_iff.1 f2).2.2
  have f1 := Lib.hid f1
  have f2 := Lib.hid f2
  go_enter Try.func33, Try.ntmps33
  go_wp2_with (go_at_call 50; refine (follow_at s (k + 1) _ _ _ true _ hs (by omega) f1.out).mono ?_; rintro e w' ⟨rfl, rfl⟩)
  refine wp_loop_rounds 2 ?_
  rw [rounds_succ]
  go_wp2_with (go_at_call 50; refine (follow_at s (k + 2) _ _ _ true _ hs (by omega) f2.out).mono ?_; rintro e w' ⟨rfl, rfl⟩)
  rw [rounds_succ]
  go_wp2_with fail
  refine wp_loop_rounds 3 ?_
  rw [rounds_succ]
  go_wp2
  rw [rounds_succ]
  go_wp2
  rw [rounds_succ]
  go_wp2
  go_ret3
  exact ⟨rfl, rfl⟩

theorem point_four_no1a (s : ByteArray) (k : Nat) (w : World) (hs : s.size ≤ maxLen) (h : k < s.size) (c : 240 ≤ byt s k) (d : byt s k ≤ 240) (f1 : folB s (k + 1) 144 191 = false) :
    Calls Try.prog 33 #[.string s, .int .i64 k] w fun e w' => e = .returned (.tuple #[.int .i64 65533, .int .i64 1, .bool false]) ∧ w = w' := by
  have hm := hs
  unfold maxLen at hm
  have hb := byt_get s k h
  have hl := byt_lo s k; have hh := byt_hi s k
  have f1 := Lib.hid f1
  go_enter Try.func33, Try.ntmps33
  go_wp2_with (go_at_call 50; refine (follow_at s (k + 1) _ _ _ false _ hs (by omega) f1.out).mono ?_; rintro e w' ⟨rfl, rfl⟩)
  refine wp_loop_rounds 1 ?_
  rw [rounds_succ]
  go_wp2_with fail
  go_ret3
  exact ⟨rfl, rfl⟩

theorem point_four_no2a (s : ByteArray) (k : Nat) (w : World) (hs : s.size ≤ maxLen) (h : k < s.size) (c : 240 ≤ byt s k) (d : byt s k ≤ 240) (f1 : folB s (k + 1) 144 191 = true) (f2 : folB s (k + 2) 128 191 = false) :
    Calls Try.prog 33 #[.string s, .int .i64 k] w fun e w' => e = .returned (.tuple #[.int .i64 65533, .int .i64 1, .bool false]) ∧ w = w' := by
  have hm := hs
  unfold maxLen at hm
  have hb := byt_get s k h
  have hl := byt_lo s k; have hh := byt_hi s k
  have hg1 := byt_get s (k + 1) (folB_iff.1 f1).1; have hlt1 := (folB_iff.1 f1).1; have hb1 := (folB_iff.1 f1).2.1; have hc1 := (folB_iff.1 f1).2.2
  have f1 := Lib.hid f1
  have f2 := Lib.hid f2
  go_enter Try.func33, Try.ntmps33
  go_wp2_with (go_at_call 50; refine (follow_at s (k + 1) _ _ _ true _ hs (by omega) f1.out).mono ?_; rintro e w' ⟨rfl, rfl⟩)
  refine wp_loop_rounds 2 ?_
  rw [rounds_succ]
  go_wp2_with (go_at_call 50; refine (follow_at s (k + 2) _ _ _ false _ hs (by omega) f2.out).mono ?_; rintro e w' ⟨rfl, rfl⟩)
  rw [rounds_succ]
  go_wp2_with fail
  go_ret3
  exact ⟨rfl, rfl⟩

theorem point_four_no3a (s : ByteArray) (k : Nat) (w : World) (hs : s.size ≤ maxLen) (h : k < s.size) (c : 240 ≤ byt s k) (d : byt s k ≤ 240) (f1 : folB s (k + 1) 144 191 = true) (f2 : folB s (k + 2) 128 191 = true) (f3 : folB s (k + 3) 128 191 = false) :
    Calls Try.prog 33 #[.string s, .int .i64 k] w fun e w' => e = .returned (.tuple #[.int .i64 65533, .int .i64 1, .bool false]) ∧ w = w' := by
  have hm := hs
  unfold maxLen at hm
  have hb := byt_get s k h
  have hl := byt_lo s k; have hh := byt_hi s k
  have hg1 := byt_get s (k + 1) (folB_iff.1 f1).1; have hlt1 := (folB_iff.1 f1).1; have hb1 := (folB_iff.1 f1).2.1; have hc1 := (folB_iff.1 f1).2.2
  have hg2 := byt_get s (k + 2) (folB_iff.1 f2).1; have hlt2 := (folB_iff.1 f2).1; have hb2 := (folB_iff.1 f2).2.1; have hc2 := (folB_iff.1 f2).2.2
  have f1 := Lib.hid f1
  have f2 := Lib.hid f2
  have f3 := Lib.hid f3
  go_enter Try.func33, Try.ntmps33
  go_wp2_with (go_at_call 50; refine (follow_at s (k + 1) _ _ _ true _ hs (by omega) f1.out).mono ?_; rintro e w' ⟨rfl, rfl⟩)
  refine wp_loop_rounds 3 ?_
  rw [rounds_succ]
  go_wp2_with (go_at_call 50; refine (follow_at s (k + 2) _ _ _ true _ hs (by omega) f2.out).mono ?_; rintro e w' ⟨rfl, rfl⟩)
  rw [rounds_succ]
  go_wp2_with (go_at_call 50; refine (follow_at s (k + 3) _ _ _ false _ hs (by omega) f3.out).mono ?_; rintro e w' ⟨rfl, rfl⟩)
  rw [rounds_succ]
  go_wp2_with fail
  go_ret3
  exact ⟨rfl, rfl⟩

theorem point_foura (s : ByteArray) (k : Nat) (w : World) (hs : s.size ≤ maxLen) (h : k < s.size) (c : 240 ≤ byt s k) (d : byt s k ≤ 240) (f1 : folB s (k + 1) 144 191 = true) (f2 : folB s (k + 2) 128 191 = true) (f3 : folB s (k + 3) 128 191 = true) :
    Calls Try.prog 33 #[.string s, .int .i64 k] w fun e w' => e = .returned (.tuple #[.int .i64 ((((byt s k - 240) * 64 + byt s (k + 1) - 128) * 64 + byt s (k + 2) - 128) * 64 + byt s (k + 3) - 128), .int .i64 4, .bool true]) ∧ w = w' := by
  have hm := hs
  unfold maxLen at hm
  have hb := byt_get s k h
  have hl := byt_lo s k; have hh := byt_hi s k
  have hg1 := byt_get s (k + 1) (folB_iff.1 f1).1; have hlt1 := (folB_iff.1 f1).1; have hb1 := (folB_iff.1 f1).2.1; have hc1 := (folB_iff.1 f1).2.2
  have hg2 := byt_get s (k + 2) (folB_iff.1 f2).1; have hlt2 := (folB_iff.1 f2).1; have hb2 := (folB_iff.1 f2).2.1; have hc2 := (folB_iff.1 f2).2.2
  have hg3 := byt_get s (k + 3) (folB_iff.1 f3).1; have hlt3 := (folB_iff.1 f3).1; have hb3 := (folB_iff.1 f3).2.1; have hc3 := (folB_iff.1 f3).2.2
  have f1 := Lib.hid f1
  have f2 := Lib.hid f2
  have f3 := Lib.hid f3
  go_enter Try.func33, Try.ntmps33
  go_wp2_with (go_at_call 50; refine (follow_at s (k + 1) _ _ _ true _ hs (by omega) f1.out).mono ?_; rintro e w' ⟨rfl, rfl⟩)
  refine wp_loop_rounds 3 ?_
  rw [rounds_succ]
  go_wp2_with (go_at_call 50; refine (follow_at s (k + 2) _ _ _ true _ hs (by omega) f2.out).mono ?_; rintro e w' ⟨rfl, rfl⟩)
  rw [rounds_succ]
  go_wp2_with (go_at_call 50; refine (follow_at s (k + 3) _ _ _ true _ hs (by omega) f3.out).mono ?_; rintro e w' ⟨rfl, rfl⟩)
  rw [rounds_succ]
  go_wp2_with fail
  refine wp_loop_rounds 4 ?_
  rw [rounds_succ]
  go_wp2
  rw [rounds_succ]
  go_wp2
  rw [rounds_succ]
  go_wp2
  rw [rounds_succ]
  go_wp2
  go_ret3
  exact ⟨rfl, rfl⟩

theorem point_four_no1b (s : ByteArray) (k : Nat) (w : World) (hs : s.size ≤ maxLen) (h : k < s.size) (c : 241 ≤ byt s k) (d : byt s k ≤ 243) (f1 : folB s (k + 1) 128 191 = false) :
    Calls Try.prog 33 #[.string s, .int .i64 k] w fun e w' => e = .returned (.tuple #[.int .i64 65533, .int .i64 1, .bool false]) ∧ w = w' := by
  have hm := hs
  unfold maxLen at hm
  have hb := byt_get s k h
  have hl := byt_lo s k; have hh := byt_hi s k
  have f1 := Lib.hid f1
  go_enter Try.func33, Try.ntmps33
  go_wp2_with (go_at_call 50; refine (follow_at s (k + 1) _ _ _ false _ hs (by omega) f1.out).mono ?_; rintro e w' ⟨rfl, rfl⟩)
  refine wp_loop_rounds 1 ?_
  rw [rounds_succ]
  go_wp2_with fail
  go_ret3
  exact ⟨rfl, rfl⟩

theorem point_four_no2b (s : ByteArray) (k : Nat) (w : World) (hs : s.size ≤ maxLen) (h : k < s.size) (c : 241 ≤ byt s k) (d : byt s k ≤ 243) (f1 : folB s (k + 1) 128 191 = true) (f2 : folB s (k + 2) 128 191 = false) :
    Calls Try.prog 33 #[.string s, .int .i64 k] w fun e w' => e = .returned (.tuple #[.int .i64 65533, .int .i64 1, .bool false]) ∧ w = w' := by
  have hm := hs
  unfold maxLen at hm
  have hb := byt_get s k h
  have hl := byt_lo s k; have hh := byt_hi s k
  have hg1 := byt_get s (k + 1) (folB_iff.1 f1).1; have hlt1 := (folB_iff.1 f1).1; have hb1 := (folB_iff.1 f1).2.1; have hc1 := (folB_iff.1 f1).2.2
  have f1 := Lib.hid f1
  have f2 := Lib.hid f2
  go_enter Try.func33, Try.ntmps33
  go_wp2_with (go_at_call 50; refine (follow_at s (k + 1) _ _ _ true _ hs (by omega) f1.out).mono ?_; rintro e w' ⟨rfl, rfl⟩)
  refine wp_loop_rounds 2 ?_
  rw [rounds_succ]
  go_wp2_with (go_at_call 50; refine (follow_at s (k + 2) _ _ _ false _ hs (by omega) f2.out).mono ?_; rintro e w' ⟨rfl, rfl⟩)
  rw [rounds_succ]
  go_wp2_with fail
  go_ret3
  exact ⟨rfl, rfl⟩

theorem point_four_no3b (s : ByteArray) (k : Nat) (w : World) (hs : s.size ≤ maxLen) (h : k < s.size) (c : 241 ≤ byt s k) (d : byt s k ≤ 243) (f1 : folB s (k + 1) 128 191 = true) (f2 : folB s (k + 2) 128 191 = true) (f3 : folB s (k + 3) 128 191 = false) :
    Calls Try.prog 33 #[.string s, .int .i64 k] w fun e w' => e = .returned (.tuple #[.int .i64 65533, .int .i64 1, .bool false]) ∧ w = w' := by
  have hm := hs
  unfold maxLen at hm
  have hb := byt_get s k h
  have hl := byt_lo s k; have hh := byt_hi s k
  have hg1 := byt_get s (k + 1) (folB_iff.1 f1).1; have hlt1 := (folB_iff.1 f1).1; have hb1 := (folB_iff.1 f1).2.1; have hc1 := (folB_iff.1 f1).2.2
  have hg2 := byt_get s (k + 2) (folB_iff.1 f2).1; have hlt2 := (folB_iff.1 f2).1; have hb2 := (folB_iff.1 f2).2.1; have hc2 := (folB_iff.1 f2).2.2
  have f1 := Lib.hid f1
  have f2 := Lib.hid f2
  have f3 := Lib.hid f3
  go_enter Try.func33, Try.ntmps33
  go_wp2_with (go_at_call 50; refine (follow_at s (k + 1) _ _ _ true _ hs (by omega) f1.out).mono ?_; rintro e w' ⟨rfl, rfl⟩)
  refine wp_loop_rounds 3 ?_
  rw [rounds_succ]
  go_wp2_with (go_at_call 50; refine (follow_at s (k + 2) _ _ _ true _ hs (by omega) f2.out).mono ?_; rintro e w' ⟨rfl, rfl⟩)
  rw [rounds_succ]
  go_wp2_with (go_at_call 50; refine (follow_at s (k + 3) _ _ _ false _ hs (by omega) f3.out).mono ?_; rintro e w' ⟨rfl, rfl⟩)
  rw [rounds_succ]
  go_wp2_with fail
  go_ret3
  exact ⟨rfl, rfl⟩

theorem point_fourb (s : ByteArray) (k : Nat) (w : World) (hs : s.size ≤ maxLen) (h : k < s.size) (c : 241 ≤ byt s k) (d : byt s k ≤ 243) (f1 : folB s (k + 1) 128 191 = true) (f2 : folB s (k + 2) 128 191 = true) (f3 : folB s (k + 3) 128 191 = true) :
    Calls Try.prog 33 #[.string s, .int .i64 k] w fun e w' => e = .returned (.tuple #[.int .i64 ((((byt s k - 240) * 64 + byt s (k + 1) - 128) * 64 + byt s (k + 2) - 128) * 64 + byt s (k + 3) - 128), .int .i64 4, .bool true]) ∧ w = w' := by
  have hm := hs
  unfold maxLen at hm
  have hb := byt_get s k h
  have hl := byt_lo s k; have hh := byt_hi s k
  have hg1 := byt_get s (k + 1) (folB_iff.1 f1).1; have hlt1 := (folB_iff.1 f1).1; have hb1 := (folB_iff.1 f1).2.1; have hc1 := (folB_iff.1 f1).2.2
  have hg2 := byt_get s (k + 2) (folB_iff.1 f2).1; have hlt2 := (folB_iff.1 f2).1; have hb2 := (folB_iff.1 f2).2.1; have hc2 := (folB_iff.1 f2).2.2
  have hg3 := byt_get s (k + 3) (folB_iff.1 f3).1; have hlt3 := (folB_iff.1 f3).1; have hb3 := (folB_iff.1 f3).2.1; have hc3 := (folB_iff.1 f3).2.2
  have f1 := Lib.hid f1
  have f2 := Lib.hid f2
  have f3 := Lib.hid f3
  go_enter Try.func33, Try.ntmps33
  go_wp2_with (go_at_call 50; refine (follow_at s (k + 1) _ _ _ true _ hs (by omega) f1.out).mono ?_; rintro e w' ⟨rfl, rfl⟩)
  refine wp_loop_rounds 3 ?_
  rw [rounds_succ]
  go_wp2_with (go_at_call 50; refine (follow_at s (k + 2) _ _ _ true _ hs (by omega) f2.out).mono ?_; rintro e w' ⟨rfl, rfl⟩)
  rw [rounds_succ]
  go_wp2_with (go_at_call 50; refine (follow_at s (k + 3) _ _ _ true _ hs (by omega) f3.out).mono ?_; rintro e w' ⟨rfl, rfl⟩)
  rw [rounds_succ]
  go_wp2_with fail
  refine wp_loop_rounds 4 ?_
  rw [rounds_succ]
  go_wp2
  rw [rounds_succ]
  go_wp2
  rw [rounds_succ]
  go_wp2
  rw [rounds_succ]
  go_wp2
  go_ret3
  exact ⟨rfl, rfl⟩

theorem point_four_no1c (s : ByteArray) (k : Nat) (w : World) (hs : s.size ≤ maxLen) (h : k < s.size) (c : 244 ≤ byt s k) (d : byt s k ≤ 244) (f1 : folB s (k + 1) 128 143 = false) :
    Calls Try.prog 33 #[.string s, .int .i64 k] w fun e w' => e = .returned (.tuple #[.int .i64 65533, .int .i64 1, .bool false]) ∧ w = w' := by
  have hm := hs
  unfold maxLen at hm
  have hb := byt_get s k h
  have hl := byt_lo s k; have hh := byt_hi s k
  have f1 := Lib.hid f1
  go_enter Try.func33, Try.ntmps33
  go_wp2_with (go_at_call 50; refine (follow_at s (k + 1) _ _ _ false _ hs (by omega) f1.out).mono ?_; rintro e w' ⟨rfl, rfl⟩)
  refine wp_loop_rounds 1 ?_
  rw [rounds_succ]
  go_wp2_with fail
  go_ret3
  exact ⟨rfl, rfl⟩

theorem point_four_no2c (s : ByteArray) (k : Nat) (w : World) (hs : s.size ≤ maxLen) (h : k < s.size) (c : 244 ≤ byt s k) (d : byt s k ≤ 244) (f1 : folB s (k + 1) 128 143 = true) (f2 : folB s (k + 2) 128 191 = false) :
    Calls Try.prog 33 #[.string s, .int .i64 k] w fun e w' => e = .returned (.tuple #[.int .i64 65533, .int .i64 1, .bool false]) ∧ w = w' := by
  have hm := hs
  unfold maxLen at hm
  have hb := byt_get s k h
  have hl := byt_lo s k; have hh := byt_hi s k
  have hg1 := byt_get s (k + 1) (folB_iff.1 f1).1; have hlt1 := (folB_iff.1 f1).1; have hb1 := (folB_iff.1 f1).2.1; have hc1 := (folB_iff.1 f1).2.2
  have f1 := Lib.hid f1
  have f2 := Lib.hid f2
  go_enter Try.func33, Try.ntmps33
  go_wp2_with (go_at_call 50; refine (follow_at s (k + 1) _ _ _ true _ hs (by omega) f1.out).mono ?_; rintro e w' ⟨rfl, rfl⟩)
  refine wp_loop_rounds 2 ?_
  rw [rounds_succ]
  go_wp2_with (go_at_call 50; refine (follow_at s (k + 2) _ _ _ false _ hs (by omega) f2.out).mono ?_; rintro e w' ⟨rfl, rfl⟩)
  rw [rounds_succ]
  go_wp2_with fail
  go_ret3
  exact ⟨rfl, rfl⟩

theorem point_four_no3c (s : ByteArray) (k : Nat) (w : World) (hs : s.size ≤ maxLen) (h : k < s.size) (c : 244 ≤ byt s k) (d : byt s k ≤ 244) (f1 : folB s (k + 1) 128 143 = true) (f2 : folB s (k + 2) 128 191 = true) (f3 : folB s (k + 3) 128 191 = false) :
    Calls Try.prog 33 #[.string s, .int .i64 k] w fun e w' => e = .returned (.tuple #[.int .i64 65533, .int .i64 1, .bool false]) ∧ w = w' := by
  have hm := hs
  unfold maxLen at hm
  have hb := byt_get s k h
  have hl := byt_lo s k; have hh := byt_hi s k
  have hg1 := byt_get s (k + 1) (folB_iff.1 f1).1; have hlt1 := (folB_iff.1 f1).1; have hb1 := (folB_iff.1 f1).2.1; have hc1 := (folB_iff.1 f1).2.2
  have hg2 := byt_get s (k + 2) (folB_iff.1 f2).1; have hlt2 := (folB_iff.1 f2).1; have hb2 := (folB_iff.1 f2).2.1; have hc2 := (folB_iff.1 f2).2.2
  have f1 := Lib.hid f1
  have f2 := Lib.hid f2
  have f3 := Lib.hid f3
  go_enter Try.func33, Try.ntmps33
  go_wp2_with (go_at_call 50; refine (follow_at s (k + 1) _ _ _ true _ hs (by omega) f1.out).mono ?_; rintro e w' ⟨rfl, rfl⟩)
  refine wp_loop_rounds 3 ?_
  rw [rounds_succ]
  go_wp2_with (go_at_call 50; refine (follow_at s (k + 2) _ _ _ true _ hs (by omega) f2.out).mono ?_; rintro e w' ⟨rfl, rfl⟩)
  rw [rounds_succ]
  go_wp2_with (go_at_call 50; refine (follow_at s (k + 3) _ _ _ false _ hs (by omega) f3.out).mono ?_; rintro e w' ⟨rfl, rfl⟩)
  rw [rounds_succ]
  go_wp2_with fail
  go_ret3
  exact ⟨rfl, rfl⟩

theorem point_fourc (s : ByteArray) (k : Nat) (w : World) (hs : s.size ≤ maxLen) (h : k < s.size) (c : 244 ≤ byt s k) (d : byt s k ≤ 244) (f1 : folB s (k + 1) 128 143 = true) (f2 : folB s (k + 2) 128 191 = true) (f3 : folB s (k + 3) 128 191 = true) :
    Calls Try.prog 33 #[.string s, .int .i64 k] w fun e w' => e = .returned (.tuple #[.int .i64 ((((byt s k - 240) * 64 + byt s (k + 1) - 128) * 64 + byt s (k + 2) - 128) * 64 + byt s (k + 3) - 128), .int .i64 4, .bool true]) ∧ w = w' := by
  have hm := hs
  unfold maxLen at hm
  have hb := byt_get s k h
  have hl := byt_lo s k; have hh := byt_hi s k
  have hg1 := byt_get s (k + 1) (folB_iff.1 f1).1; have hlt1 := (folB_iff.1 f1).1; have hb1 := (folB_iff.1 f1).2.1; have hc1 := (folB_iff.1 f1).2.2
  have hg2 := byt_get s (k + 2) (folB_iff.1 f2).1; have hlt2 := (folB_iff.1 f2).1; have hb2 := (folB_iff.1 f2).2.1; have hc2 := (folB_iff.1 f2).2.2
  have hg3 := byt_get s (k + 3) (folB_iff.1 f3).1; have hlt3 := (folB_iff.1 f3).1; have hb3 := (folB_iff.1 f3).2.1; have hc3 := (folB_iff.1 f3).2.2
  have f1 := Lib.hid f1
  have f2 := Lib.hid f2
  have f3 := Lib.hid f3
  go_enter Try.func33, Try.ntmps33
  go_wp2_with (go_at_call 50; refine (follow_at s (k + 1) _ _ _ true _ hs (by omega) f1.out).mono ?_; rintro e w' ⟨rfl, rfl⟩)
  refine wp_loop_rounds 3 ?_
  rw [rounds_succ]
  go_wp2_with (go_at_call 50; refine (follow_at s (k + 2) _ _ _ true _ hs (by omega) f2.out).mono ?_; rintro e w' ⟨rfl, rfl⟩)
  rw [rounds_succ]
  go_wp2_with (go_at_call 50; refine (follow_at s (k + 3) _ _ _ true _ hs (by omega) f3.out).mono ?_; rintro e w' ⟨rfl, rfl⟩)
  rw [rounds_succ]
  go_wp2_with fail
  refine wp_loop_rounds 4 ?_
  rw [rounds_succ]
  go_wp2
  rw [rounds_succ]
  go_wp2
  rw [rounds_succ]
  go_wp2
  rw [rounds_succ]
  go_wp2
  go_ret3
  exact ⟨rfl, rfl⟩

/-- The code point at a byte of a text. -/
theorem point_any (s : ByteArray) (k : Nat) (w : World) (hs : s.size ≤ maxLen) (h : k < s.size) :
    Calls Try.prog 33 #[.string s, .int .i64 k] w fun e w' => e = .returned (.tuple #[.int .i64 (ptS s k).1, .int .i64 ((ptS s k).2.1 : Nat), .bool (ptS s k).2.2]) ∧ w = w' := by
  have hl := byt_lo s k; have hh := byt_hi s k
  unfold ptS
  by_cases c1 : byt s k < 128
  · rw [if_pos c1]; exact point_one s k w hs h c1
  rw [if_neg c1]
  by_cases c2 : byt s k < 194
  · rw [if_pos c2]; exact point_bad s k w hs h (by omega) c2
  rw [if_neg c2]
  by_cases c3 : byt s k < 224
  · rw [if_pos c3]; unfold pt2
    cases f1 : folB s (k + 1) 128 191
    · rw [if_neg (by simp)]; exact point_two_no s k w hs h (by omega) c3 f1
    · rw [if_pos rfl]; exact point_two s k w hs h (by omega) c3 f1
  rw [if_neg c3]
  by_cases c4 : byt s k = 224
  · rw [if_pos c4]
    unfold pt3
    cases f1 : folB s (k + 1) 160 191
    · rw [if_neg (by simp)]; exact point_three_no1a s k w hs h (by omega) (by omega) f1
    · cases f2 : folB s (k + 2) 128 191
      · rw [if_neg (by simp)]; exact point_three_no2a s k w hs h (by omega) (by omega) f1 f2
      · rw [if_pos ⟨rfl, rfl⟩]; exact point_threea s k w hs h (by omega) (by omega) f1 f2
  rw [if_neg c4]
  by_cases c5 : byt s k = 237
  · rw [if_pos c5]
    unfold pt3
    cases f1 : folB s (k + 1) 128 159
    · rw [if_neg (by simp)]; exact point_three_no1c s k w hs h (by omega) (by omega) f1
    · cases f2 : folB s (k + 2) 128 191
      · rw [if_neg (by simp)]; exact point_three_no2c s k w hs h (by omega) (by omega) f1 f2
      · rw [if_pos ⟨rfl, rfl⟩]; exact point_threec s k w hs h (by omega) (by omega) f1 f2
  rw [if_neg c5]
  by_cases c6 : byt s k < 240
  · rw [if_pos c6]
    by_cases c7 : byt s k ≤ 236
    · unfold pt3
      cases f1 : folB s (k + 1) 128 191
      · rw [if_neg (by simp)]; exact point_three_no1b s k w hs h (by omega) c7 f1
      · cases f2 : folB s (k + 2) 128 191
        · rw [if_neg (by simp)]; exact point_three_no2b s k w hs h (by omega) c7 f1 f2
        · rw [if_pos ⟨rfl, rfl⟩]; exact point_threeb s k w hs h (by omega) c7 f1 f2
    · unfold pt3
      cases f1 : folB s (k + 1) 128 191
      · rw [if_neg (by simp)]; exact point_three_no1d s k w hs h (by omega) (by omega) f1
      · cases f2 : folB s (k + 2) 128 191
        · rw [if_neg (by simp)]; exact point_three_no2d s k w hs h (by omega) (by omega) f1 f2
        · rw [if_pos ⟨rfl, rfl⟩]; exact point_threed s k w hs h (by omega) (by omega) f1 f2
  rw [if_neg c6]
  by_cases d1 : byt s k = 240
  · rw [if_pos d1]
    unfold pt4
    cases f1 : folB s (k + 1) 144 191
    · rw [if_neg (by simp)]; exact point_four_no1a s k w hs h (by omega) (by omega) f1
    · cases f2 : folB s (k + 2) 128 191
      · rw [if_neg (by simp)]; exact point_four_no2a s k w hs h (by omega) (by omega) f1 f2
      · cases f3 : folB s (k + 3) 128 191
        · rw [if_neg (by simp)]; exact point_four_no3a s k w hs h (by omega) (by omega) f1 f2 f3
        · rw [if_pos ⟨rfl, rfl, rfl⟩]; exact point_foura s k w hs h (by omega) (by omega) f1 f2 f3
  rw [if_neg d1]
  by_cases d2 : byt s k < 244
  · rw [if_pos d2]
    unfold pt4
    cases f1 : folB s (k + 1) 128 191
    · rw [if_neg (by simp)]; exact point_four_no1b s k w hs h (by omega) (by omega) f1
    · cases f2 : folB s (k + 2) 128 191
      · rw [if_neg (by simp)]; exact point_four_no2b s k w hs h (by omega) (by omega) f1 f2
      · cases f3 : folB s (k + 3) 128 191
        · rw [if_neg (by simp)]; exact point_four_no3b s k w hs h (by omega) (by omega) f1 f2 f3
        · rw [if_pos ⟨rfl, rfl, rfl⟩]; exact point_fourb s k w hs h (by omega) (by omega) f1 f2 f3
  rw [if_neg d2]
  by_cases d3 : byt s k = 244
  · rw [if_pos d3]
    unfold pt4
    cases f1 : folB s (k + 1) 128 143
    · rw [if_neg (by simp)]; exact point_four_no1c s k w hs h (by omega) (by omega) f1
    · cases f2 : folB s (k + 2) 128 191
      · rw [if_neg (by simp)]; exact point_four_no2c s k w hs h (by omega) (by omega) f1 f2
      · cases f3 : folB s (k + 3) 128 191
        · rw [if_neg (by simp)]; exact point_four_no3c s k w hs h (by omega) (by omega) f1 f2 f3
        · rw [if_pos ⟨rfl, rfl, rfl⟩]; exact point_fourc s k w hs h (by omega) (by omega) f1 f2 f3
  rw [if_neg d3]
  exact point_big s k w hs h (by omega)
end Go.Proofs.Ytihfdmjejllhnaa
