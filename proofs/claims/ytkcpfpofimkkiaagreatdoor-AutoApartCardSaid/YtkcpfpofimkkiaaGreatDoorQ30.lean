/- The contracts of utf8.AppendRune onto bytes of the call's own, and of ref1.Letter. · The contract of ref1.Letter: a point as a text. · The contracts of points.Text and ref1.Text: one text. -/
import Derived.Test.YtkcpfpofimkkiaaGreatDoorProg
import Derived.Test.YtkcpfpofimkkiaaGreatDoorQ1
import Derived.WalkSpells
import Derived.WalkLawsBesides
import Derived.Handy
import Derived.Lib.RuneBytes
import Derived.Laws.BytesArg
namespace Go.Proofs.YtkcpfpofimkkiaaGreatDoor
open Go.RowKit
set_option linter.unusedVariables false
set_option linter.unusedSimpArgs false

theorem elB : ElTy Tryz.prog 79 5 1 1 (.int .u8 0) := ⟨Tryz.underlying79, by kernel_rfl, rfl, by decide⟩


theorem ar_one (r : Int) (v : Value) (n : Nat) (xs : List Value) (B : Nat) (w : World) (hown : w.ownsRow B 5 1 v n xs) (hB : B ≤ w.heap.size) (hn : n ≤ 1000000000) (h0 : 0 ≤ r) (h1 : r ≤ 127) :
    Calls Tryz.prog 52 #[v, .int .i32 r] w fun e w' => ∃ v', e = .returned v' ∧ w'.ownsRow B 5 1 v' (n + (Lib.runeCells r).length) (xs ++ Lib.runeCells r) ∧ Below B w w' := by
  have he : Lib.runeCells r = [.int .u8 (r)] := by unfold Lib.runeCells; rw [Lib.encodeRuneZ_one h0 h1]; rfl
  have HE := Lib.hid he; clear he
  go_enter Tryz.func52, Tryz.ntmps52
  go_wp2_with (at_builtin; refine wpList_app elB rfl (.tmp 8) (.tmp 11) rfl B v n 1 xs [.int .u8 (r)] rfl hown rfl rfl (by simp [Value.oneCell']) (by omega) (by omega) hB ?_; intro v' w1 hown2 hg hat)
  go_ret
  exact ⟨v', rfl, by rw [HE.out]; exact hown2, (Below.refl _ _).grown hg hB (own_base hown)⟩

theorem ar_two (r : Int) (v : Value) (n : Nat) (xs : List Value) (B : Nat) (w : World) (hown : w.ownsRow B 5 1 v n xs) (hB : B ≤ w.heap.size) (hn : n ≤ 1000000000) (h0 : 128 ≤ r) (h1 : r ≤ 2047) :
    Calls Tryz.prog 80 #[v, .int .i32 r] w fun e w' => ∃ v', e = .returned v' ∧ w'.ownsRow B 5 1 v' (n + (Lib.runeCells r).length) (xs ++ Lib.runeCells r) ∧ Below B w w' := by
  have he : Lib.runeCells r = [.int .u8 (192 + r / 64), .int .u8 (128 + r % 64)] := by unfold Lib.runeCells; rw [Lib.encodeRuneZ_two h0 h1]; rfl
  have HE := Lib.hid he; clear he
  go_enter Tryz.func80, Tryz.ntmps80
  go_wp2_with (at_builtin; refine wpList_app elB rfl (.tmp 14) (.tmp 23) rfl B v n 2 xs [.int .u8 (192 + r / 64), .int .u8 (128 + r % 64)] rfl hown rfl rfl (by simp [Value.oneCell']) (by omega) (by omega) hB ?_; intro v' w1 hown2 hg hat)
  go_ret
  exact ⟨v', rfl, by rw [HE.out]; exact hown2, (Below.refl _ _).grown hg hB (own_base hown)⟩

theorem ar_three (r : Int) (v : Value) (n : Nat) (xs : List Value) (B : Nat) (w : World) (hown : w.ownsRow B 5 1 v n xs) (hB : B ≤ w.heap.size) (hn : n ≤ 1000000000) (h0 : 2048 ≤ r) (h1 : r < 55296) :
    Calls Tryz.prog 80 #[v, .int .i32 r] w fun e w' => ∃ v', e = .returned v' ∧ w'.ownsRow B 5 1 v' (n + (Lib.runeCells r).length) (xs ++ Lib.runeCells r) ∧ Below B w w' := by
  have he : Lib.runeCells r = [.int .u8 (224 + r / 4096), .int .u8 (128 + r / 64 % 64), .int .u8 (128 + r % 64)] := by unfold Lib.runeCells; rw [Lib.encodeRuneZ_three (.inl ⟨h0, h1⟩)]; rfl
  have HE := Lib.hid he; clear he
  go_enter Tryz.func80, Tryz.ntmps80
  go_wp2_with (at_builtin; refine wpList_app elB rfl (.tmp 34) (.tmp 48) rfl B v n 3 xs [.int .u8 (224 + r / 4096), .int .u8 (128 + r / 64 % 64), .int .u8 (128 + r % 64)] rfl hown rfl rfl (by simp [Value.oneCell']) (by omega) (by omega) hB ?_; intro v' w1 hown2 hg hat)
  go_ret
  exact ⟨v', rfl, by rw [HE.out]; exact hown2, (Below.refl _ _).grown hg hB (own_base hown)⟩

theorem ar_threeb (r : Int) (v : Value) (n : Nat) (xs : List Value) (B : Nat) (w : World) (hown : w.ownsRow B 5 1 v n xs) (hB : B ≤ w.heap.size) (hn : n ≤ 1000000000) (h0 : 57343 < r) (h1 : r ≤ 65535) :
    Calls Tryz.prog 80 #[v, .int .i32 r] w fun e w' => ∃ v', e = .returned v' ∧ w'.ownsRow B 5 1 v' (n + (Lib.runeCells r).length) (xs ++ Lib.runeCells r) ∧ Below B w w' := by
  have he : Lib.runeCells r = [.int .u8 (224 + r / 4096), .int .u8 (128 + r / 64 % 64), .int .u8 (128 + r % 64)] := by unfold Lib.runeCells; rw [Lib.encodeRuneZ_three (.inr ⟨h0, h1⟩)]; rfl
  have HE := Lib.hid he; clear he
  go_enter Tryz.func80, Tryz.ntmps80
  go_wp2_with (at_builtin; refine wpList_app elB rfl (.tmp 34) (.tmp 48) rfl B v n 3 xs [.int .u8 (224 + r / 4096), .int .u8 (128 + r / 64 % 64), .int .u8 (128 + r % 64)] rfl hown rfl rfl (by simp [Value.oneCell']) (by omega) (by omega) hB ?_; intro v' w1 hown2 hg hat)
  go_ret
  exact ⟨v', rfl, by rw [HE.out]; exact hown2, (Below.refl _ _).grown hg hB (own_base hown)⟩

theorem ar_four (r : Int) (v : Value) (n : Nat) (xs : List Value) (B : Nat) (w : World) (hown : w.ownsRow B 5 1 v n xs) (hB : B ≤ w.heap.size) (hn : n ≤ 1000000000) (h0 : 65536 ≤ r) (h1 : r ≤ 1114111) :
    Calls Tryz.prog 80 #[v, .int .i32 r] w fun e w' => ∃ v', e = .returned v' ∧ w'.ownsRow B 5 1 v' (n + (Lib.runeCells r).length) (xs ++ Lib.runeCells r) ∧ Below B w w' := by
  have he : Lib.runeCells r = [.int .u8 (240 + r / 262144), .int .u8 (128 + r / 4096 % 64), .int .u8 (128 + r / 64 % 64), .int .u8 (128 + r % 64)] := by unfold Lib.runeCells; rw [Lib.encodeRuneZ_four h0 h1]; rfl
  have HE := Lib.hid he; clear he
  go_enter Tryz.func80, Tryz.ntmps80
  go_wp2_with (at_builtin; refine wpList_app elB rfl (.tmp 57) (.tmp 76) rfl B v n 4 xs [.int .u8 (240 + r / 262144), .int .u8 (128 + r / 4096 % 64), .int .u8 (128 + r / 64 % 64), .int .u8 (128 + r % 64)] rfl hown rfl rfl (by simp [Value.oneCell']) (by omega) (by omega) hB ?_; intro v' w1 hown2 hg hat)
  go_ret
  exact ⟨v', rfl, by rw [HE.out]; exact hown2, (Below.refl _ _).grown hg hB (own_base hown)⟩

theorem ar_bad (r : Int) (v : Value) (n : Nat) (xs : List Value) (B : Nat) (w : World) (hown : w.ownsRow B 5 1 v n xs) (hB : B ≤ w.heap.size) (hn : n ≤ 1000000000) (h0 : 55296 ≤ r) (h1 : r ≤ 57343) :
    Calls Tryz.prog 80 #[v, .int .i32 r] w fun e w' => ∃ v', e = .returned v' ∧ w'.ownsRow B 5 1 v' (n + (Lib.runeCells r).length) (xs ++ Lib.runeCells r) ∧ Below B w w' := by
  have he : Lib.runeCells r = [.int .u8 (239), .int .u8 (191), .int .u8 (189)] := by unfold Lib.runeCells; rw [Lib.encodeRuneZ_bad (.inr (.inl ⟨h0, h1⟩))]; rfl
  have HE := Lib.hid he; clear he
  go_enter Tryz.func80, Tryz.ntmps80
  go_wp2_with (at_builtin; refine wpList_app elB rfl (.tmp 8) (.tmp 9) rfl B v n 3 xs [.int .u8 (239), .int .u8 (191), .int .u8 (189)] rfl hown rfl rfl (by simp [Value.oneCell']) (by omega) (by omega) hB ?_; intro v' w1 hown2 hg hat)
  go_ret
  exact ⟨v', rfl, by rw [HE.out]; exact hown2, (Below.refl _ _).grown hg hB (own_base hown)⟩

theorem arN_any (r : Int) (v : Value) (n : Nat) (xs : List Value) (B : Nat) (w : World) (hown : w.ownsRow B 5 1 v n xs) (hB : B ≤ w.heap.size) (hn : n ≤ 1000000000) (h0 : 128 ≤ r) (h1 : r ≤ 1114111) :
    Calls Tryz.prog 80 #[v, .int .i32 r] w fun e w' => ∃ v', e = .returned v' ∧ w'.ownsRow B 5 1 v' (n + (Lib.runeCells r).length) (xs ++ Lib.runeCells r) ∧ Below B w w' := by
  by_cases c1 : r ≤ 2047
  · exact ar_two r v n xs B w hown hB hn h0 c1
  by_cases c2 : r < 55296
  · exact ar_three r v n xs B w hown hB hn (by omega) c2
  by_cases c3 : r ≤ 57343
  · exact ar_bad r v n xs B w hown hB hn (by omega) c3
  by_cases c4 : r ≤ 65535
  · exact ar_threeb r v n xs B w hown hB hn (by omega) c4
  · exact ar_four r v n xs B w hown hB hn (by omega) h1

theorem ar_any (r : Int) (v : Value) (n : Nat) (xs : List Value) (B : Nat) (w : World) (hown : w.ownsRow B 5 1 v n xs) (hB : B ≤ w.heap.size) (hn : n ≤ 1000000000) (h0 : 0 ≤ r) (h1 : r ≤ 1114111) :
    Calls Tryz.prog 52 #[v, .int .i32 r] w fun e w' => ∃ v', e = .returned v' ∧ w'.ownsRow B 5 1 v' (n + (Lib.runeCells r).length) (xs ++ Lib.runeCells r) ∧ Below B w w' := by
  by_cases c : r ≤ 127
  · exact ar_one r v n xs B w hown hB hn h0 c
  · have hc := arN_any r v n xs B w hown hB hn (by omega) h1
    have HC := Lib.hid hc; clear hc
    go_enter Tryz.func52, Tryz.ntmps52
    go_wp2_with (go_at_call 80; refine HC.out.mono ?_; rintro e w' ⟨v', rfl, hown2, hb⟩)
    go_ret
    exact ⟨v', rfl, hown2, hb⟩
end Go.Proofs.YtkcpfpofimkkiaaGreatDoor
namespace Go.Proofs.YtkcpfpofimkkiaaGreatDoor
open Go.RowKit
set_option linter.unusedVariables false
set_option linter.unusedSimpArgs false
set_option maxRecDepth 100000

theorem conv_new (w : World) (xs : List Int) :
    (convert 79 9 (.slice (some ⟨w.heap.size, 0, none⟩) xs.length xs.length)).run Tryz.prog (w.alloc (.cells (xs.map (Value.int .u8)).toArray 5)) =
      .ok (.string (strOfNums xs)) (w.alloc (.cells (xs.map (Value.int .u8)).toArray 5)) :=
  run_convert_bytes_arg (P := Tryz.prog) _ 79 5 Tryz.underlying79 Tryz.underlying5 w.heap.size 0 xs.length xs.length xs rfl (fun i hi => by
    rw [cell_of_row _ w.heap.size (0 + i) _ 5 (0, 0) (heap_alloc_new w _)]
    simp [hi]) _ Tryz.underlying9

theorem str_enc {xs : List Int} {r : Int} (h : Lib.encodeRuneZ r = xs) : strOfNums xs = ⟨(Lib.encodeRune r).toArray⟩ := by
  subst h
  apply ByteArray.ext
  apply Array.ext'
  rw [strOfNums_data]
  unfold Lib.encodeRune
  exact List.map_congr_left fun x hx => rfl

theorem letter_one (r : Int) (w : World) (h0 : 0 ≤ r) (h1 : r ≤ 127) :
    Calls Tryz.prog 45 #[.int .i64 r] w fun e w' => e = .returned (.string ⟨(Lib.encodeRune r).toArray⟩) ∧ Below w.heap.size w w' := by
  have he : strOfNums [r] = ⟨(Lib.encodeRune r).toArray⟩ := str_enc (Lib.encodeRuneZ_one h0 h1)
  have HE := Lib.hid he; clear he
  have kc : (convert 79 9 (.slice (some ⟨w.heap.size, 0, none⟩) 1 1)).run Tryz.prog (w.alloc (.cells #[.int .u8 (r)] 5)) = .ok (.string (strOfNums [r])) (w.alloc (.cells #[.int .u8 (r)] 5)) := conv_new w [r]
  rw [HE.out] at kc
  go_enter Tryz.func45, Tryz.ntmps45
  go_wp2
  go_ret
  exact ⟨rfl, (Below.refl _ _).alloc (Nat.le_refl _) _⟩

theorem letter_two (r : Int) (w : World) (h0 : 128 ≤ r) (h1 : r ≤ 2047) :
    Calls Tryz.prog 45 #[.int .i64 r] w fun e w' => e = .returned (.string ⟨(Lib.encodeRune r).toArray⟩) ∧ Below w.heap.size w w' := by
  have he : strOfNums [192 + r / 64, 128 + r % 64] = ⟨(Lib.encodeRune r).toArray⟩ := str_enc (Lib.encodeRuneZ_two h0 h1)
  have HE := Lib.hid he; clear he
  have kc : (convert 79 9 (.slice (some ⟨w.heap.size, 0, none⟩) 2 2)).run Tryz.prog (w.alloc (.cells #[.int .u8 (192 + r / 64), .int .u8 (128 + r % 64)] 5)) = .ok (.string (strOfNums [192 + r / 64, 128 + r % 64])) (w.alloc (.cells #[.int .u8 (192 + r / 64), .int .u8 (128 + r % 64)] 5)) := conv_new w [192 + r / 64, 128 + r % 64]
  rw [HE.out] at kc
  go_enter Tryz.func45, Tryz.ntmps45
  go_wp2
  go_ret
  exact ⟨rfl, (Below.refl _ _).alloc (Nat.le_refl _) _⟩

theorem letter_three (r : Int) (w : World) (h0 : 2048 ≤ r) (h1 : r < 55296) :
    Calls Tryz.prog 45 #[.int .i64 r] w fun e w' => e = .returned (.string ⟨(Lib.encodeRune r).toArray⟩) ∧ Below w.heap.size w w' := by
  have he : strOfNums [224 + r / 4096, 128 + r / 64 % 64, 128 + r % 64] = ⟨(Lib.encodeRune r).toArray⟩ := str_enc (Lib.encodeRuneZ_three (.inl ⟨h0, h1⟩))
  have HE := Lib.hid he; clear he
  have kc : (convert 79 9 (.slice (some ⟨w.heap.size, 0, none⟩) 3 3)).run Tryz.prog (w.alloc (.cells #[.int .u8 (224 + r / 4096), .int .u8 (128 + r / 64 % 64), .int .u8 (128 + r % 64)] 5)) = .ok (.string (strOfNums [224 + r / 4096, 128 + r / 64 % 64, 128 + r % 64])) (w.alloc (.cells #[.int .u8 (224 + r / 4096), .int .u8 (128 + r / 64 % 64), .int .u8 (128 + r % 64)] 5)) := conv_new w [224 + r / 4096, 128 + r / 64 % 64, 128 + r % 64]
  rw [HE.out] at kc
  go_enter Tryz.func45, Tryz.ntmps45
  go_wp2
  go_ret
  exact ⟨rfl, (Below.refl _ _).alloc (Nat.le_refl _) _⟩

theorem letter_threeb (r : Int) (w : World) (h0 : 57343 < r) (h1 : r ≤ 65535) :
    Calls Tryz.prog 45 #[.int .i64 r] w fun e w' => e = .returned (.string ⟨(Lib.encodeRune r).toArray⟩) ∧ Below w.heap.size w w' := by
  have he : strOfNums [224 + r / 4096, 128 + r / 64 % 64, 128 + r % 64] = ⟨(Lib.encodeRune r).toArray⟩ := str_enc (Lib.encodeRuneZ_three (.inr ⟨h0, h1⟩))
  have HE := Lib.hid he; clear he
  have kc : (convert 79 9 (.slice (some ⟨w.heap.size, 0, none⟩) 3 3)).run Tryz.prog (w.alloc (.cells #[.int .u8 (224 + r / 4096), .int .u8 (128 + r / 64 % 64), .int .u8 (128 + r % 64)] 5)) = .ok (.string (strOfNums [224 + r / 4096, 128 + r / 64 % 64, 128 + r % 64])) (w.alloc (.cells #[.int .u8 (224 + r / 4096), .int .u8 (128 + r / 64 % 64), .int .u8 (128 + r % 64)] 5)) := conv_new w [224 + r / 4096, 128 + r / 64 % 64, 128 + r % 64]
  rw [HE.out] at kc
  go_enter Tryz.func45, Tryz.ntmps45
  go_wp2
  go_ret
  exact ⟨rfl, (Below.refl _ _).alloc (Nat.le_refl _) _⟩

theorem letter_four (r : Int) (w : World) (h0 : 65536 ≤ r) (h1 : r ≤ 1114111) :
    Calls Tryz.prog 45 #[.int .i64 r] w fun e w' => e = .returned (.string ⟨(Lib.encodeRune r).toArray⟩) ∧ Below w.heap.size w w' := by
  have he : strOfNums [240 + r / 262144, 128 + r / 4096 % 64, 128 + r / 64 % 64, 128 + r % 64] = ⟨(Lib.encodeRune r).toArray⟩ := str_enc (Lib.encodeRuneZ_four h0 h1)
  have HE := Lib.hid he; clear he
  have kc : (convert 79 9 (.slice (some ⟨w.heap.size, 0, none⟩) 4 4)).run Tryz.prog (w.alloc (.cells #[.int .u8 (240 + r / 262144), .int .u8 (128 + r / 4096 % 64), .int .u8 (128 + r / 64 % 64), .int .u8 (128 + r % 64)] 5)) = .ok (.string (strOfNums [240 + r / 262144, 128 + r / 4096 % 64, 128 + r / 64 % 64, 128 + r % 64])) (w.alloc (.cells #[.int .u8 (240 + r / 262144), .int .u8 (128 + r / 4096 % 64), .int .u8 (128 + r / 64 % 64), .int .u8 (128 + r % 64)] 5)) := conv_new w [240 + r / 262144, 128 + r / 4096 % 64, 128 + r / 64 % 64, 128 + r % 64]
  rw [HE.out] at kc
  go_enter Tryz.func45, Tryz.ntmps45
  go_wp2
  go_ret
  exact ⟨rfl, (Below.refl _ _).alloc (Nat.le_refl _) _⟩

theorem letter_neg (r : Int) (w : World) (h0 : r < 0) :
    Calls Tryz.prog 45 #[.int .i64 r] w fun e w' => e = .returned (.string ⟨(Lib.encodeRune r).toArray⟩) ∧ Below w.heap.size w w' := by
  have he : strOfNums [239, 191, 189] = ⟨(Lib.encodeRune r).toArray⟩ := str_enc (Lib.encodeRuneZ_bad (.inl h0))
  have HE := Lib.hid he; clear he
  have kc : (convert 79 9 (.slice (some ⟨w.heap.size, 0, none⟩) 3 3)).run Tryz.prog (w.alloc (.cells #[.int .u8 (239), .int .u8 (191), .int .u8 (189)] 5)) = .ok (.string (strOfNums [239, 191, 189])) (w.alloc (.cells #[.int .u8 (239), .int .u8 (191), .int .u8 (189)] 5)) := conv_new w [239, 191, 189]
  rw [HE.out] at kc
  go_enter Tryz.func45, Tryz.ntmps45
  go_wp2
  go_ret
  exact ⟨rfl, (Below.refl _ _).alloc (Nat.le_refl _) _⟩

theorem letter_half (r : Int) (w : World) (h0 : 55296 ≤ r) (h1 : r ≤ 57343) :
    Calls Tryz.prog 45 #[.int .i64 r] w fun e w' => e = .returned (.string ⟨(Lib.encodeRune r).toArray⟩) ∧ Below w.heap.size w w' := by
  have he : strOfNums [239, 191, 189] = ⟨(Lib.encodeRune r).toArray⟩ := str_enc (Lib.encodeRuneZ_bad (.inr (.inl ⟨h0, h1⟩)))
  have HE := Lib.hid he; clear he
  have kc : (convert 79 9 (.slice (some ⟨w.heap.size, 0, none⟩) 3 3)).run Tryz.prog (w.alloc (.cells #[.int .u8 (239), .int .u8 (191), .int .u8 (189)] 5)) = .ok (.string (strOfNums [239, 191, 189])) (w.alloc (.cells #[.int .u8 (239), .int .u8 (191), .int .u8 (189)] 5)) := conv_new w [239, 191, 189]
  rw [HE.out] at kc
  go_enter Tryz.func45, Tryz.ntmps45
  go_wp2
  go_ret
  exact ⟨rfl, (Below.refl _ _).alloc (Nat.le_refl _) _⟩

theorem letter_big (r : Int) (w : World) (h0 : 1114111 < r) :
    Calls Tryz.prog 45 #[.int .i64 r] w fun e w' => e = .returned (.string ⟨(Lib.encodeRune r).toArray⟩) ∧ Below w.heap.size w w' := by
  have he : strOfNums [239, 191, 189] = ⟨(Lib.encodeRune r).toArray⟩ := str_enc (Lib.encodeRuneZ_bad (.inr (.inr h0)))
  have HE := Lib.hid he; clear he
  have kc : (convert 79 9 (.slice (some ⟨w.heap.size, 0, none⟩) 3 3)).run Tryz.prog (w.alloc (.cells #[.int .u8 (239), .int .u8 (191), .int .u8 (189)] 5)) = .ok (.string (strOfNums [239, 191, 189])) (w.alloc (.cells #[.int .u8 (239), .int .u8 (191), .int .u8 (189)] 5)) := conv_new w [239, 191, 189]
  rw [HE.out] at kc
  go_enter Tryz.func45, Tryz.ntmps45
  go_wp2
  go_ret
  exact ⟨rfl, (Below.refl _ _).alloc (Nat.le_refl _) _⟩

theorem letter_any (r : Int) (w : World) :
    Calls Tryz.prog 45 #[.int .i64 r] w fun e w' => e = .returned (.string ⟨(Lib.encodeRune r).toArray⟩) ∧ Below w.heap.size w w' := by
  by_cases c0 : r < 0
  · exact letter_neg r w c0
  by_cases c1 : r ≤ 127
  · exact letter_one r w (by omega) c1
  by_cases c2 : r ≤ 2047
  · exact letter_two r w (by omega) c2
  by_cases c3 : r < 55296
  · exact letter_three r w (by omega) c3
  by_cases c4 : r ≤ 57343
  · exact letter_half r w (by omega) c4
  by_cases c5 : r ≤ 65535
  · exact letter_threeb r w (by omega) c5
  by_cases c6 : r ≤ 1114111
  · exact letter_four r w (by omega) c6
  · exact letter_big r w (by omega)
end Go.Proofs.YtkcpfpofimkkiaaGreatDoor
namespace Go.Proofs.YtkcpfpofimkkiaaGreatDoor
open Go.RowKit
set_option linter.unusedVariables false
set_option linter.unusedSimpArgs false
set_option maxRecDepth 100000

/-- The bytes of points, as numbers. -/
def txtZ (l : List Int) : List Int := l.flatMap Lib.encodeRuneZ
theorem txtZ_take {l : List Int} {k : Nat} (h : k < l.length) : txtZ (l.take (k + 1)) = txtZ (l.take k) ++ Lib.encodeRuneZ (nth l k) := by
  unfold txtZ
  rw [List.take_succ_eq_append_getElem h, List.flatMap_append, nth_get h]; simp
theorem txtZ_len (l : List Int) (k : Nat) : (txtZ (l.take k)).length ≤ 4 * k := by
  induction k with
  | zero => simp [txtZ]
  | succ k ih =>
    by_cases h : k < l.length
    · rw [txtZ_take h, List.length_append]
      have := (Lib.encodeRuneZ_length (nth l k)).2
      omega
    · rw [List.take_of_length_le (by omega)]
      rw [List.take_of_length_le (by omega)] at ih
      omega
theorem bytes_app (a b : List Int) : (a ++ b).map (Value.int .u8) = a.map (Value.int .u8) ++ b.map (Value.int .u8) := List.map_append

theorem conv_own {w : World} {base n : Nat} {v : Value} {xs : List Int} (h : w.ownsRow base 5 1 v n (xs.map (Value.int .u8))) :
    (convert 79 9 v).run Tryz.prog w = .ok (.string (strOfNums xs)) w := by
  rcases h.2 with ⟨rfl, rfl⟩ | ⟨g, cap, cur, rfl, hb, hg, hn, hc, hs, ht⟩
  · have hx : xs = [] := by have := h.1; simp at this; exact this
    subst hx
    exact run_convert_bytes_nil (P := Tryz.prog) w 79 5 Tryz.underlying79 Tryz.underlying5 0 0 _ Tryz.underlying9
  · have hl : xs.length = n := by have := h.1; simpa using this
    refine run_convert_bytes_arg (P := Tryz.prog) w 79 5 Tryz.underlying79 Tryz.underlying5 g 0 n cap xs hl (fun i hi => ?_) _ Tryz.underlying9
    have := h.cells (g := g) rfl i (.int .u8 (xs.getD i 0)) (by simp [List.getElem?_map, hl, hi])
    have hadd : (⟨g, 0, none⟩ : Addr).add i = ⟨g, 0 + i, none⟩ := by unfold Addr.add; split <;> simp_all
    rwa [hadd] at this

theorem text_any (A : Option Addr) (c n : Nat) (l : List Int) (w : World) (B : Nat) (h : RdI w B A l) (hl : l.length = n) (hm : n ≤ 100000000) (hB : B ≤ w.heap.size) :
    Calls Tryz.prog 32 #[.slice A n c] w fun e w' => e = .returned (.string (strOfNums (txtZ l))) ∧ Below w.heap.size w w' := by
  have Hl := Lib.hid hl; clear hl
  go_enter Tryz.func32, Tryz.ntmps32
  go_wp2
  go_loopw [3, 9] (fun v i wr => ∃ k : Nat, k ≤ n ∧ i = .int .i64 k ∧ wr.ownsRow w.heap.size 5 1 v (txtZ (l.take k)).length ((txtZ (l.take k)).map (Value.int .u8)) ∧ Below w.heap.size w wr) (fun _ i _ => n - (intOf i).toNat)
  case atStart => exact ⟨0, Nat.zero_le _, rfl, World.ownsRow_nil _ _ _ _, Below.refl _ _⟩
  case round =>
    obtain ⟨k, hk, rfl, hown, hb⟩ := hrel
    have hbs := hb.size
    by_cases hlt : k < n
    · obtain ⟨b, off, rfl, hb', hc⟩ := (h.below (hb.mono hB)).at_ (by rw [Hl.out]; omega)
      have c1 := hc k (by rw [Hl.out]; omega)
      clear hc
      have hle := txtZ_len l k
      have htk := txtZ_take (l := l) (k := k) (by rw [Hl.out]; omega)
      obtain ⟨p, hp⟩ : ∃ p, p = nth l k := ⟨_, rfl⟩
      rw [← hp] at c1 htk
      have HP := Lib.hid hp; clear hp
      have HT := Lib.hid htk; clear htk
      generalize hx : txtZ (l.take k) = xs at *
      have HX := Lib.hid hx; clear hx
      by_cases hr : 0 ≤ p ∧ p ≤ 1114111
      · obtain ⟨h0, h1⟩ := hr
        go_wp2_with (go_at_call 52; refine (ar_any p _ xs.length _ w.heap.size _ hown hbs (by omega) h0 h1).mono ?_; rintro e w1 ⟨v', rfl, hown', hb1⟩)
        go_roundw
        case rel => exact ⟨k + 1, by omega, by go_num, by rw [HT.out, bytes_app, List.length_append]; simpa [Lib.runeCells] using hown', hb.trans hb1⟩
        case measure => simp [intOf]; omega
      · have hbad : Lib.encodeRuneZ p = Lib.encodeRuneZ 65533 := by rw [Lib.encodeRuneZ_bad (by omega)]; decide
        have HB := Lib.hid hbad; clear hbad
        by_cases h0 : 0 ≤ p
        all_goals
          go_wp2_with (go_at_call 52; refine (ar_any 65533 _ xs.length _ w.heap.size _ hown hbs (by omega) (by omega) (by omega)).mono ?_; rintro e w1 ⟨v', rfl, hown', hb1⟩)
          go_roundw
          case rel => exact ⟨k + 1, by omega, by go_num, by rw [HT.out, HB.out, bytes_app, List.length_append]; simpa [Lib.runeCells] using hown', hb.trans hb1⟩
          case measure => simp [intOf]; omega
    · have hx : txtZ (l.take k) = txtZ l := by rw [List.take_of_length_le (by rw [Hl.out]; omega)]
      rw [hx] at hown
      have kc := conv_own hown
      clear hx
      go_wp2
      go_ret
      exact ⟨rfl, hb⟩

theorem strOf_app (a b : List Int) : strOfNums (a ++ b) = strOfNums a ++ strOfNums b := by
  apply ByteArray.ext
  rw [ByteArray.data_append]
  apply Array.ext'
  rw [Array.toList_append, strOfNums_data, strOfNums_data, strOfNums_data, List.map_append]
theorem strOf_enc (r : Int) : (⟨(Lib.encodeRune r).toArray⟩ : ByteArray) = strOfNums (Lib.encodeRuneZ r) := (str_enc rfl).symm

theorem letter_str (r : Int) (w : World) : Calls Tryz.prog 45 #[.int .i64 r] w fun e w' => e = .returned (.string (strOfNums (Lib.encodeRuneZ r))) ∧ Below w.heap.size w w' := by
  rw [← strOf_enc]; exact letter_any r w

theorem r1Text_any (A : Option Addr) (c n : Nat) (l : List Int) (w : World) (B : Nat) (h : RdI w B A l) (hl : l.length = n) (hm : n ≤ 100000000) (hB : B ≤ w.heap.size) :
    Calls Tryz.prog 24 #[.slice A n c] w fun e w' => e = .returned (.string (strOfNums (txtZ l))) ∧ Below w.heap.size w w' := by
  have Hl := Lib.hid hl; clear hl
  go_enter Tryz.func24, Tryz.ntmps24
  go_wp2
  go_loopw [3, 4] (fun v i wr => ∃ k : Nat, k ≤ n ∧ i = .int .i64 k ∧ v = .string (strOfNums (txtZ (l.take k))) ∧ Below w.heap.size w wr) (fun _ i _ => n - (intOf i).toNat)
  case atStart => exact ⟨0, Nat.zero_le _, rfl, rfl, Below.refl _ _⟩
  case round =>
    obtain ⟨k, hk, rfl, rfl, hb⟩ := hrel
    have hbs := hb.size
    by_cases hlt : k < n
    · obtain ⟨b, off, rfl, hb', hc⟩ := (h.below (hb.mono hB)).at_ (by rw [Hl.out]; omega)
      have c1 := hc k (by rw [Hl.out]; omega)
      clear hc
      have hle := txtZ_len l k
      have htk := txtZ_take (l := l) (k := k) (by rw [Hl.out]; omega)
      have hsz := strOfNums_size (txtZ (l.take k))
      have hsz2 := strOfNums_size (Lib.encodeRuneZ (nth l k))
      have hr4 := (Lib.encodeRuneZ_length (nth l k)).2
      have hst := strOf_app (txtZ (l.take k)) (Lib.encodeRuneZ (nth l k))
      rw [← htk] at hst
      have hlet := letter_str (nth l k)
      generalize nth l k = p at *
      generalize hsx : strOfNums (txtZ (l.take k)) = sx at *
      generalize hsp : strOfNums (Lib.encodeRuneZ p) = sp at *
      have HL := Lib.hid hlet; clear hlet
      have HS := Lib.hid hst; clear hst
      have g1 : sx.size ≤ 4 * k := by omega
      have g2 : sp.size ≤ 4 := by omega
      clear hsz hsz2 htk hsx hsp hle hr4
      go_wp2_with (go_at_call 45; refine (HL.out _).mono ?_; rintro e w1 ⟨rfl, hb1⟩)
      go_roundw
      case rel => exact ⟨k + 1, by omega, by go_num, by rw [HS.out], hb.trans (hb1.mono hbs)⟩
      case measure => simp [intOf]; omega
    · have hx : txtZ (l.take k) = txtZ l := by rw [List.take_of_length_le (by rw [Hl.out]; omega)]
      rw [hx]
      go_wp2
      go_ret
      exact ⟨rfl, hb⟩
end Go.Proofs.YtkcpfpofimkkiaaGreatDoor
