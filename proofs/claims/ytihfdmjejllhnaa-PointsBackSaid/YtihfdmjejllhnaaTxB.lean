/- The contract of ref1.Letter: a point as a text. -/
import Derived.Test.YtihfdmjejllhnaaTxA
import Derived.Laws.BytesArg
namespace Go.Proofs.Ytihfdmjejllhnaa
open Go.RowKit
set_option linter.unusedVariables false
set_option linter.unusedSimpArgs false
set_option maxRecDepth 100000

theorem conv_new (w : World) (xs : List Int) :
    (convert 48 9 (.slice (some ⟨w.heap.size, 0, none⟩) xs.length xs.length)).run Try.prog (w.alloc (.cells (xs.map (Value.int .u8)).toArray 5)) =
      .ok (.string (strOfNums xs)) (w.alloc (.cells (xs.map (Value.int .u8)).toArray 5)) :=
  run_convert_bytes_arg (P := Try.prog) _ 48 5 Try.underlying48 Try.underlying5 w.heap.size 0 xs.length xs.length xs rfl (fun i hi => by
    rw [cell_of_row _ w.heap.size (0 + i) _ 5 (0, 0) (heap_alloc_new w _)]
    simp [hi]) _ Try.underlying9

theorem str_enc {xs : List Int} {r : Int} (h : Lib.encodeRuneZ r = xs) : strOfNums xs = ⟨(Lib.encodeRune r).toArray⟩ := by
  subst h
  apply ByteArray.ext
  apply Array.ext'
  rw [strOfNums_data]
  unfold Lib.encodeRune
  exact List.map_congr_left fun x hx => rfl

theorem letter_one (r : Int) (w : World) (h0 : 0 ≤ r) (h1 : r ≤ 127) :
    Calls Try.prog 35 #[.int .i64 r] w fun e w' => e = .returned (.string ⟨(Lib.encodeRune r).toArray⟩) ∧ Below w.heap.size w w' := by
  have he : strOfNums [r] = ⟨(Lib.encodeRune r).toArray⟩ := str_enc (Lib.encodeRuneZ_one h0 h1)
  have HE := Lib.hid he; clear he
  have kc : (convert 48 9 (.slice (some ⟨w.heap.size, 0, none⟩) 1 1)).run Try.prog (w.alloc (.cells #[.int .u8 (r)] 5)) = .ok (.string (strOfNums [r])) (w.alloc (.cells #[.int .u8 (r)] 5)) := conv_new w [r]
  rw [HE.out] at kc
  go_enter Try.func35, Try.ntmps35
  go_wp2
  go_ret
  exact ⟨rfl, (Below.refl _ _).alloc (Nat.le_refl _) _⟩

theorem letter_two (r : Int) (w : World) (h0 : 128 ≤ r) (h1 : r ≤ 2047) :
    Calls Try.prog 35 #[.int .i64 r] w fun e w' => e = .returned (.string ⟨(Lib.encodeRune r).toArray⟩) ∧ Below w.heap.size w w' := by
  have he : strOfNums [192 + r / 64, 128 + r % 64] = ⟨(Lib.encodeRune r).toArray⟩ := str_enc (Lib.encodeRuneZ_two h0 h1)
  have HE := Lib.hid he; clear he
  have kc : (convert 48 9 (.slice (some ⟨w.heap.size, 0, none⟩) 2 2)).run Try.prog (w.alloc (.cells #[.int .u8 (192 + r / 64), .int .u8 (128 + r % 64)] 5)) = .ok (.string (strOfNums [192 + r / 64, 128 + r % 64])) (w.alloc (.cells #[.int .u8 (192 + r / 64), .int .u8 (128 + r % 64)] 5)) := conv_new w [192 + r / 64, 128 + r % 64]
  rw [HE.out] at kc
  go_enter Try.func35, Try.ntmps35
  go_wp2
  go_ret
  exact ⟨rfl, (Below.refl _ _).alloc (Nat.le_refl _) _⟩

theorem letter_three (r : Int) (w : World) (h0 : 2048 ≤ r) (h1 : r < 55296) :
    Calls Try.prog 35 #[.int .i64 r] w fun e w' => e = .returned (.string ⟨(Lib.encodeRune r).toArray⟩) ∧ Below w.heap.size w w' := by
  have he : strOfNums [224 + r / 4096, 128 + r / 64 % 64, 128 + r % 64] = ⟨(Lib.encodeRune r).toArray⟩ := str_enc (Lib.encodeRuneZ_three (.inl ⟨h0, h1⟩))
  have HE := Lib.hid he; clear he
  have kc : (convert 48 9 (.slice (some ⟨w.heap.size, 0, none⟩) 3 3)).run Try.prog (w.alloc (.cells #[.int .u8 (224 + r / 4096), .int .u8 (128 + r / 64 % 64), .int .u8 (128 + r % 64)] 5)) = .ok (.string (strOfNums [224 + r / 4096, 128 + r / 64 % 64, 128 + r % 64])) (w.alloc (.cells #[.int .u8 (224 + r / 4096), .int .u8 (128 + r / 64 % 64), .int .u8 (128 + r % 64)] 5)) := conv_new w [224 + r / 4096, 128 + r / 64 % 64, 128 + r % 64]
  rw [HE.out] at kc
  go_enter Try.func35, Try.ntmps35
  go_wp2
  go_ret
  exact ⟨rfl, (Below.refl _ _).alloc (Nat.le_refl _) _⟩

theorem letter_threeb (r : Int) (w : World) (h0 : 57343 < r) (h1 : r ≤ 65535) :
    Calls Try.prog 35 #[.int .i64 r] w fun e w' => e = .returned (.string ⟨(Lib.encodeRune r).toArray⟩) ∧ Below w.heap.size w w' := by
  have he : strOfNums [224 + r / 4096, 128 + r / 64 % 64, 128 + r % 64] = ⟨(Lib.encodeRune r).toArray⟩ := str_enc (Lib.encodeRuneZ_three (.inr ⟨h0, h1⟩))
  have HE := Lib.hid he; clear he
  have kc : (convert 48 9 (.slice (some ⟨w.heap.size, 0, none⟩) 3 3)).run Try.prog (w.alloc (.cells #[.int .u8 (224 + r / 4096), .int .u8 (128 + r / 64 % 64), .int .u8 (128 + r % 64)] 5)) = .ok (.string (strOfNums [224 + r / 4096, 128 + r / 64 % 64, 128 + r % 64])) (w.alloc (.cells #[.int .u8 (224 + r / 4096), .int .u8 (128 + r / 64 % 64), .int .u8 (128 + r % 64)] 5)) := conv_new w [224 + r / 4096, 128 + r / 64 % 64, 128 + r % 64]
  rw [HE.out] at kc
  go_enter Try.func35, Try.ntmps35
  go_wp2
  go_ret
  exact ⟨rfl, (Below.refl _ _).alloc (Nat.le_refl _) _⟩

theorem letter_four (r : Int) (w : World) (h0 : 65536 ≤ r) (h1 : r ≤ 1114111) :
    Calls Try.prog 35 #[.int .i64 r] w fun e w' => e = .returned (.string ⟨(Lib.encodeRune r).toArray⟩) ∧ Below w.heap.size w w' := by
  have he : strOfNums [240 + r / 262144, 128 + r / 4096 % 64, 128 + r / 64 % 64, 128 + r % 64] = ⟨(Lib.encodeRune r).toArray⟩ := str_enc (Lib.encodeRuneZ_four h0 h1)
  have HE := Lib.hid he; clear he
  have kc : (convert 48 9 (.slice (some ⟨w.heap.size, 0, none⟩) 4 4)).run Try.prog (w.alloc (.cells #[.int .u8 (240 + r / 262144), .int .u8 (128 + r / 4096 % 64), .int .u8 (128 + r / 64 % 64), .int .u8 (128 + r % 64)] 5)) = .ok (.string (strOfNums [240 + r / 262144, 128 + r / 4096 % 64, 128 + r / 64 % 64, 128 + r % 64])) (w.alloc (.cells #[.int .u8 (240 + r / 262144), .int .u8 (128 + r / 4096 % 64), .int .u8 (128 + r / 64 % 64), .int .u8 (128 + r % 64)] 5)) := conv_new w [240 + r / 262144, 128 + r / 4096 % 64, 128 + r / 64 % 64, 128 + r % 64]
  rw [HE.out] at kc
  go_enter Try.func35, Try.ntmps35
  go_wp2
  go_ret
  exact ⟨rfl, (Below.refl _ _).alloc (Nat.le_refl _) _⟩

theorem letter_neg (r : Int) (w : World) (h0 : r < 0) :
    Calls Try.prog 35 #[.int .i64 r] w fun e w' => e = .returned (.string ⟨(Lib.encodeRune r).toArray⟩) ∧ Below w.heap.size w w' := by
  have he : strOfNums [239, 191, 189] = ⟨(Lib.encodeRune r).toArray⟩ := str_enc (Lib.encodeRuneZ_bad (.inl h0))
  have HE := Lib.hid he; clear he
  have kc : (convert 48 9 (.slice (some ⟨w.heap.size, 0, none⟩) 3 3)).run Try.prog (w.alloc (.cells #[.int .u8 (239), .int .u8 (191), .int .u8 (189)] 5)) = .ok (.string (strOfNums [239, 191, 189])) (w.alloc (.cells #[.int .u8 (239), .int .u8 (191), .int .u8 (189)] 5)) := conv_new w [239, 191, 189]
  rw [HE.out] at kc
  go_enter Try.func35, Try.ntmps35
  go_wp2
  go_ret
  exact ⟨rfl, (Below.refl _ _).alloc (Nat.le_refl _) _⟩

theorem letter_half (r : Int) (w : World) (h0 : 55296 ≤ r) (h1 : r ≤ 57343) :
    Calls Try.prog 35 #[.int .i64 r] w fun e w' => e = .returned (.string ⟨(Lib.encodeRune r).toArray⟩) ∧ Below w.heap.size w w' := by
  have he : strOfNums [239, 191, 189] = ⟨(Lib.encodeRune r).toArray⟩ := str_enc (Lib.encodeRuneZ_bad (.inr (.inl ⟨h0, h1⟩)))
  have HE := Lib.hid he; clear he
  have kc : (convert 48 9 (.slice (some ⟨w.heap.size, 0, none⟩) 3 3)).run Try.prog (w.alloc (.cells #[.int .u8 (239), .int .u8 (191), .int .u8 (189)] 5)) = .ok (.string (strOfNums [239, 191, 189])) (w.alloc (.cells #[.int .u8 (239), .int .u8 (191), .int .u8 (189)] 5)) := conv_new w [239, 191, 189]
  rw [HE.out] at kc
  go_enter Try.func35, Try.ntmps35
  go_wp2
  go_ret
  exact ⟨rfl, (Below.refl _ _).alloc (Nat.le_refl _) _⟩

theorem letter_big (r : Int) (w : World) (h0 : 1114111 < r) :
    Calls Try.prog 35 #[.int .i64 r] w fun e w' => e = .returned (.string ⟨(Lib.encodeRune r).toArray⟩) ∧ Below w.heap.size w w' := by
  have he : strOfNums [239, 191, 189] = ⟨(Lib.encodeRune r).toArray⟩ := str_enc (Lib.encodeRuneZ_bad (.inr (.inr h0)))
  have HE := Lib.hid he; clear he
  have kc : (convert 48 9 (.slice (some ⟨w.heap.size, 0, none⟩) 3 3)).run Try.prog (w.alloc (.cells #[.int .u8 (239), .int .u8 (191), .int .u8 (189)] 5)) = .ok (.string (strOfNums [239, 191, 189])) (w.alloc (.cells #[.int .u8 (239), .int .u8 (191), .int .u8 (189)] 5)) := conv_new w [239, 191, 189]
  rw [HE.out] at kc
  go_enter Try.func35, Try.ntmps35
  go_wp2
  go_ret
  exact ⟨rfl, (Below.refl _ _).alloc (Nat.le_refl _) _⟩

theorem letter_any (r : Int) (w : World) :
    Calls Try.prog 35 #[.int .i64 r] w fun e w' => e = .returned (.string ⟨(Lib.encodeRune r).toArray⟩) ∧ Below w.heap.size w w' := by
  by_cases c0 : r < 0
  · exact letter_neg r w c0
  by_cases c1 : r ≤ 127
  · exact letter_one r w (by omega) c1
  by_cases c2 : r ≤ 2047
  · exact letter_two r w (by omega) c2
  by_cases c3 : r < 55296
  · exact letter_three r w (by omega) c3
  by_cases c4 : r ≤ 57343
  · exact letter_half r w (by omega) c4
  by_cases c5 : r ≤ 65535
  · exact letter_threeb r w (by omega) c5
  by_cases c6 : r ≤ 1114111
  · exact letter_four r w (by omega) c6
  · exact letter_big r w (by omega)
end Go.Proofs.Ytihfdmjejllhnaa
