/- The contracts of utf8.AppendRune onto bytes of the call's own, and of ref1.Letter. -/
import Derived.Test.YtihfdmjejllhnaaProg
import Derived.Test.YtihfdmjejllhnaaMem
import Derived.WalkSpells
import Derived.WalkLawsBesides
import Derived.Handy
import Derived.Lib.RuneBytes
namespace Go.Proofs.Ytihfdmjejllhnaa
open Go.RowKit
set_option linter.unusedVariables false
set_option linter.unusedSimpArgs false

theorem elB : ElTy Try.prog 48 5 1 1 (.int .u8 0) := ⟨Try.underlying48, by kernel_rfl, rfl, by decide⟩


theorem ar_one (r : Int) (v : Value) (n : Nat) (xs : List Value) (B : Nat) (w : World) (hown : w.ownsRow B 5 1 v n xs) (hB : B ≤ w.heap.size) (hn : n ≤ 1000000000) (h0 : 0 ≤ r) (h1 : r ≤ 127) :
    Calls Try.prog 34 #[v, .int .i32 r] w fun e w' => ∃ v', e = .returned v' ∧ w'.ownsRow B 5 1 v' (n + (Lib.runeCells r).length) (xs ++ Lib.runeCells r) ∧ Below B w w' := by
  have he : Lib.runeCells r = [.int .u8 (r)] := by unfold Lib.runeCells; rw [Lib.encodeRuneZ_one h0 h1]; rfl
  have HE := Lib.hid he; clear he
  go_enter Try.func34, Try.ntmps34
  go_wp2_with (at_builtin; refine wpList_app elB rfl (.tmp 8) (.tmp 11) rfl B v n 1 xs [.int .u8 (r)] rfl hown rfl rfl (by simp [Value.oneCell']) (by omega) (by omega) hB ?_; intro v' w1 hown2 hg hat)
  go_ret
  exact ⟨v', rfl, by rw [HE.out]; exact hown2, (Below.refl _ _).grown hg hB (own_base hown)⟩

theorem ar_two (r : Int) (v : Value) (n : Nat) (xs : List Value) (B : Nat) (w : World) (hown : w.ownsRow B 5 1 v n xs) (hB : B ≤ w.heap.size) (hn : n ≤ 1000000000) (h0 : 128 ≤ r) (h1 : r ≤ 2047) :
    Calls Try.prog 51 #[v, .int .i32 r] w fun e w' => ∃ v', e = .returned v' ∧ w'.ownsRow B 5 1 v' (n + (Lib.runeCells r).length) (xs ++ Lib.runeCells r) ∧ Below B w w' := by
  have he : Lib.runeCells r = [.int .u8 (192 + r / 64), .int .u8 (128 + r % 64)] := by unfold Lib.runeCells; rw [Lib.encodeRuneZ_two h0 h1]; rfl
  have HE := Lib.hid he; clear he
  go_enter Try.func51, Try.ntmps51
  go_wp2_with (at_builtin; refine wpList_app elB rfl (.tmp 14) (.tmp 23) rfl B v n 2 xs [.int .u8 (192 + r / 64), .int .u8 (128 + r % 64)] rfl hown rfl rfl (by simp [Value.oneCell']) (by omega) (by omega) hB ?_; intro v' w1 hown2 hg hat)
  go_ret
  exact ⟨v', rfl, by rw [HE.out]; exact hown2, (Below.refl _ _).grown hg hB (own_base hown)⟩

theorem ar_three (r : Int) (v : Value) (n : Nat) (xs : List Value) (B : Nat) (w : World) (hown : w.ownsRow B 5 1 v n xs) (hB : B ≤ w.heap.size) (hn : n ≤ 1000000000) (h0 : 2048 ≤ r) (h1 : r < 55296) :
    Calls Try.prog 51 #[v, .int .i32 r] w fun e w' => ∃ v', e = .returned v' ∧ w'.ownsRow B 5 1 v' (n + (Lib.runeCells r).length) (xs ++ Lib.runeCells r) ∧ Below B w w' := by
  have he : Lib.runeCells r = [.int .u8 (224 + r / 4096), .int .u8 (128 + r / 64 % 64), .int .u8 (128 + r % 64)] := by unfold Lib.runeCells; rw [Lib.encodeRuneZ_three (.inl ⟨h0, h1⟩)]; rfl
  have HE := Lib.hid he; clear he
  go_enter Try.func51, Try.ntmps51
  go_wp2_with (at_builtin; refine wpList_app elB rfl (.tmp 34) (.tmp 48) rfl B v n 3 xs [.int .u8 (224 + r / 4096), .int .u8 (128 + r / 64 % 64), .int .u8 (128 + r % 64)] rfl hown rfl rfl (by simp [Value.oneCell']) (by omega) (by omega) hB ?_; intro v' w1 hown2 hg hat)
  go_ret
  exact ⟨v', rfl, by rw [HE.out]; exact hown2, (Below.refl _ _).grown hg hB (own_base hown)⟩

theorem ar_threeb (r : Int) (v : Value) (n : Nat) (xs : List Value) (B : Nat) (w : World) (hown : w.ownsRow B 5 1 v n xs) (hB : B ≤ w.heap.size) (hn : n ≤ 1000000000) (h0 : 57343 < r) (h1 : r ≤ 65535) :
    Calls Try.prog 51 #[v, .int .i32 r] w fun e w' => ∃ v', e = .returned v' ∧ w'.ownsRow B 5 1 v' (n + (Lib.runeCells r).length) (xs ++ Lib.runeCells r) ∧ Below B w w' := by
  have he : Lib.runeCells r = [.int .u8 (224 + r / 4096), .int .u8 (128 + r / 64 % 64), .int .u8 (128 + r % 64)] := by unfold Lib.runeCells; rw [Lib.encodeRuneZ_three (.inr ⟨h0, h1⟩)]; rfl
  have HE := Lib.hid he; clear he
  go_enter Try.func51, Try.ntmps51
  go_wp2_with (at_builtin; refine wpList_app elB rfl (.tmp 34) (.tmp 48) rfl B v n 3 xs [.int .u8 (224 + r / 4096), .int .u8 (128 + r / 64 % 64), .int .u8 (128 + r % 64)] rfl hown rfl rfl (by simp [Value.oneCell']) (by omega) (by omega) hB ?_; intro v' w1 hown2 hg hat)
  go_ret
  exact ⟨v', rfl, by rw [HE.out]; exact hown2, (Below.refl _ _).grown hg hB (own_base hown)⟩

theorem ar_four (r : Int) (v : Value) (n : Nat) (xs : List Value) (B : Nat) (w : World) (hown : w.ownsRow B 5 1 v n xs) (hB : B ≤ w.heap.size) (hn : n ≤ 1000000000) (h0 : 65536 ≤ r) (h1 : r ≤ 1114111) :
    Calls Try.prog 51 #[v, .int .i32 r] w fun e w' => ∃ v', e = .returned v' ∧ w'.ownsRow B 5 1 v' (n + (Lib.runeCells r).length) (xs ++ Lib.runeCells r) ∧ Below B w w' := by
  have he : Lib.runeCells r = [.int .u8 (240 + r / 262144), .int .u8 (128 + r / 4096 % 64), .int .u8 (128 + r / 64 % 64), .int .u8 (128 + r % 64)] := by unfold Lib.runeCells; rw [Lib.encodeRuneZ_four h0 h1]; rfl
  have HE := Lib.hid he; clear he
  go_enter Try.func51, Try.ntmps51
  go_wp2_with (at_builtin; refine wpList_app elB rfl (.tmp 57) (.tmp 76) rfl B v n 4 xs [.int .u8 (240 + r / 262144), .int .u8 (128 + r / 4096 % 64), .int .u8 (128 + r / 64 % 64), .int .u8 (128 + r % 64)] rfl hown rfl rfl (by simp [Value.oneCell']) (by omega) (by omega) hB ?_; intro v' w1 hown2 hg hat)
  go_ret
  exact ⟨v', rfl, by rw [HE.out]; exact hown2, (Below.refl _ _).grown hg hB (own_base hown)⟩

theorem ar_bad (r : Int) (v : Value) (n : Nat) (xs : List Value) (B : Nat) (w : World) (hown : w.ownsRow B 5 1 v n xs) (hB : B ≤ w.heap.size) (hn : n ≤ 1000000000) (h0 : 55296 ≤ r) (h1 : r ≤ 57343) :
    Calls Try.prog 51 #[v, .int .i32 r] w fun e w' => ∃ v', e = .returned v' ∧ w'.ownsRow B 5 1 v' (n + (Lib.runeCells r).length) (xs ++ Lib.runeCells r) ∧ Below B w w' := by
  have he : Lib.runeCells r = [.int .u8 (239), .int .u8 (191), .int .u8 (189)] := by unfold Lib.runeCells; rw [Lib.encodeRuneZ_bad (.inr (.inl ⟨h0, h1⟩))]; rfl
  have HE := Lib.hid he; clear he
  go_enter Try.func51, Try.ntmps51
  go_wp2_with (at_builtin; refine wpList_app elB rfl (.tmp 8) (.tmp 9) rfl B v n 3 xs [.int .u8 (239), .int .u8 (191), .int .u8 (189)] rfl hown rfl rfl (by simp [Value.oneCell']) (by omega) (by omega) hB ?_; intro v' w1 hown2 hg hat)
  go_ret
  exact ⟨v', rfl, by rw [HE.out]; exact hown2, (Below.refl _ _).grown hg hB (own_base hown)⟩

theorem arN_any (r : Int) (v : Value) (n : Nat) (xs : List Value) (B : Nat) (w : World) (hown : w.ownsRow B 5 1 v n xs) (hB : B ≤ w.heap.size) (hn : n ≤ 1000000000) (h0 : 128 ≤ r) (h1 : r ≤ 1114111) :
    Calls Try.prog 51 #[v, .int .i32 r] w fun e w' => ∃ v', e = .returned v' ∧ w'.ownsRow B 5 1 v' (n + (Lib.runeCells r).length) (xs ++ Lib.runeCells r) ∧ Below B w w' := by
  by_cases c1 : r ≤ 2047
  · exact ar_two r v n xs B w hown hB hn h0 c1
  by_cases c2 : r < 55296
  · exact ar_three r v n xs B w hown hB hn (by omega) c2
  by_cases c3 : r ≤ 57343
  · exact ar_bad r v n xs B w hown hB hn (by omega) c3
  by_cases c4 : r ≤ 65535
  · exact ar_threeb r v n xs B w hown hB hn (by omega) c4
  · exact ar_four r v n xs B w hown hB hn (by omega) h1

theorem ar_any (r : Int) (v : Value) (n : Nat) (xs : List Value) (B : Nat) (w : World) (hown : w.ownsRow B 5 1 v n xs) (hB : B ≤ w.heap.size) (hn : n ≤ 1000000000) (h0 : 0 ≤ r) (h1 : r ≤ 1114111) :
    Calls Try.prog 34 #[v, .int .i32 r] w fun e w' => ∃ v', e = .returned v' ∧ w'.ownsRow B 5 1 v' (n + (Lib.runeCells r).length) (xs ++ Lib.runeCells r) ∧ Below B w w' := by
  by_cases c : r ≤ 127
  · exact ar_one r v n xs B w hown hB hn h0 c
  · have hc := arN_any r v n xs B w hown hB hn (by omega) h1
    have HC := Lib.hid hc; clear hc
    go_enter Try.func34, Try.ntmps34
    go_wp2_with (go_at_call 51; refine HC.out.mono ?_; rintro e w' ⟨v', rfl, hown2, hb⟩)
    go_ret
    exact ⟨v', rfl, hown2, hb⟩
end Go.Proofs.Ytihfdmjejllhnaa
