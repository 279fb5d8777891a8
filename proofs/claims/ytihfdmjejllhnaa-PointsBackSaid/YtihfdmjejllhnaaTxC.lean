/- The contracts of points.Text and ref1.Text: one text. -/
import Derived.Test.YtihfdmjejllhnaaTxB
namespace Go.Proofs.Ytihfdmjejllhnaa
open Go.RowKit
set_option linter.unusedVariables false
set_option linter.unusedSimpArgs false
set_option maxRecDepth 100000

/-- The bytes of points, as numbers. -/
def txtZ (l : List Int) : List Int := l.flatMap Lib.encodeRuneZ
theorem txtZ_take {l : List Int} {k : Nat} (h : k < l.length) : txtZ (l.take (k + 1)) = txtZ (l.take k) ++ Lib.encodeRuneZ (nth l k) := by
  unfold txtZ
  rw [List.take_succ_eq_append_getElem h, List.flatMap_append, nth_get h]; simp
theorem txtZ_len (l : List Int) (k : Nat) : (txtZ (l.take k)).length ≤ 4 * k := by
  induction k with
  | zero => simp [txtZ]
  | succ k ih =>
    by_cases h : k < l.length
    · rw [txtZ_take h, List.length_append]
      have := (Lib.encodeRuneZ_length (nth l k)).2
      omega
    · rw [List.take_of_length_le (by omega)]
      rw [List.take_of_length_le (by omega)] at ih
      omega
theorem bytes_app (a b : List Int) : (a ++ b).map (Value.int .u8) = a.map (Value.int .u8) ++ b.map (Value.int .u8) := List.map_append

theorem conv_own {w : World} {base n : Nat} {v : Value} {xs : List Int} (h : w.ownsRow base 5 1 v n (xs.map (Value.int .u8))) :
    (convert 48 9 v).run Try.prog w = .ok (.string (strOfNums xs)) w := by
  rcases h.2 with ⟨rfl, rfl⟩ | ⟨g, cap, cur, rfl, hb, hg, hn, hc, hs, ht⟩
  · have hx : xs = [] := by have := h.1; simp at this; exact this
    subst hx
    exact run_convert_bytes_nil (P := Try.prog) w 48 5 Try.underlying48 Try.underlying5 0 0 _ Try.underlying9
  · have hl : xs.length = n := by have := h.1; simpa using this
    refine run_convert_bytes_arg (P := Try.prog) w 48 5 Try.underlying48 Try.underlying5 g 0 n cap xs hl (fun i hi => ?_) _ Try.underlying9
    have := h.cells (g := g) rfl i (.int .u8 (xs.getD i 0)) (by simp [List.getElem?_map, hl, hi])
    have hadd : (⟨g, 0, none⟩ : Addr).add i = ⟨g, 0 + i, none⟩ := by unfold Addr.add; split <;> simp_all
    rwa [hadd] at this

theorem text_any (A : Option Addr) (c n : Nat) (l : List Int) (w : World) (B : Nat) (h : RdI w B A l) (hl : l.length = n) (hm : n ≤ 100000000) (hB : B ≤ w.heap.size) :
    Calls Try.prog 11 #[.slice A n c] w fun e w' => e = .returned (.string (strOfNums (txtZ l))) ∧ Below w.heap.size w w' := by
  have Hl := Lib.hid hl; clear hl
  go_enter Try.func11, Try.ntmps11
  go_wp2
  go_loopw [3, 9] (fun v i wr => ∃ k : Nat, k ≤ n ∧ i = .int .i64 k ∧ wr.ownsRow w.heap.size 5 1 v (txtZ (l.take k)).length ((txtZ (l.take k)).map (Value.int .u8)) ∧ Below w.heap.size w wr) (fun _ i _ => n - (intOf i).toNat)
  case atStart => exact ⟨0, Nat.zero_le _, rfl, World.ownsRow_nil _ _ _ _, Below.refl _ _⟩
  case round =>
    obtain ⟨k, hk, rfl, hown, hb⟩ := hrel
    have hbs := hb.size
    by_cases hlt : k < n
    · obtain ⟨b, off, rfl, hb', hc⟩ := (h.below (hb.mono hB)).at_ (by rw [Hl.out]; omega)
      have c1 := hc k (by rw [Hl.out]; omega)
      clear hc
      have hle := txtZ_len l k
      have htk := txtZ_take (l := l) (k := k) (by rw [Hl.out]; omega)
      obtain ⟨p, hp⟩ : ∃ p, p = nth l k := ⟨_, rfl⟩
      rw [← hp] at c1 htk
      have HP := Lib.hid hp; clear hp
      have HT := Lib.hid htk; clear htk
      generalize hx : txtZ (l.take k) = xs at *
      have HX := Lib.hid hx; clear hx
      by_cases hr : 0 ≤ p ∧ p ≤ 1114111
      · obtain ⟨h0, h1⟩ := hr
        go_wp2_with (go_at_call 34; refine (ar_any p _ xs.length _ w.heap.size _ hown hbs (by omega) h0 h1).mono ?_; rintro e w1 ⟨v', rfl, hown', hb1⟩)
        go_roundw
        case rel => exact ⟨k + 1, by omega, by go_num, by rw [HT.out, bytes_app, List.length_append]; simpa [Lib.runeCells] using hown', hb.trans hb1⟩
        case measure => simp [intOf]; omega
      · have hbad : Lib.encodeRuneZ p = Lib.encodeRuneZ 65533 := by rw [Lib.encodeRuneZ_bad (by omega)]; decide
        have HB := Lib.hid hbad; clear hbad
        by_cases h0 : 0 ≤ p
        all_goals
          go_wp2_with (go_at_call 34; refine (ar_any 65533 _ xs.length _ w.heap.size _ hown hbs (by omega) (by omega) (by omega)).mono ?_; rintro e w1 ⟨v', rfl, hown', hb1⟩)
          go_roundw
          case rel => exact ⟨k + 1, by omega, by go_num, by rw [HT.out, HB.out, bytes_app, List.length_append]; simpa [Lib.runeCells] using hown', hb.trans hb1⟩
          case measure => simp [intOf]; omega
    · have hx : txtZ (l.take k) = txtZ l := by rw [List.take_of_length_le (by rw [Hl.out]; omega)]
      rw [hx] at hown
      have kc := conv_own hown
      clear hx
      go_wp2
      go_ret
      exact ⟨rfl, hb⟩

theorem strOf_app (a b : List Int) : strOfNums (a ++ b) = strOfNums a ++ strOfNums b := by
  apply ByteArray.ext
  rw [ByteArray.data_append]
  apply Array.ext'
  rw [Array.toList_append, strOfNums_data, strOfNums_data, strOfNums_data, List.map_append]
theorem strOf_enc (r : Int) : (⟨(Lib.encodeRune r).toArray⟩ : ByteArray) = strOfNums (Lib.encodeRuneZ r) := (str_enc rfl).symm

theorem letter_str (r : Int) (w : World) : Calls Try.prog 35 #[.int .i64 r] w fun e w' => e = .returned (.string (strOfNums (Lib.encodeRuneZ r))) ∧ Below w.heap.size w w' := by
  rw [← strOf_enc]; exact letter_any r w

theorem r1Text_any (A : Option Addr) (c n : Nat) (l : List Int) (w : World) (B : Nat) (h : RdI w B A l) (hl : l.length = n) (hm : n ≤ 100000000) (hB : B ≤ w.heap.size) :
    Calls Try.prog 12 #[.slice A n c] w fun e w' => e = .returned (.string (strOfNums (txtZ l))) ∧ Below w.heap.size w w' := by
  have Hl := Lib.hid hl; clear hl
  go_enter Try.func12, Try.ntmps12
  go_wp2
  go_loopw [3, 4] (fun v i wr => ∃ k : Nat, k ≤ n ∧ i = .int .i64 k ∧ v = .string (strOfNums (txtZ (l.take k))) ∧ Below w.heap.size w wr) (fun _ i _ => n - (intOf i).toNat)
  case atStart => exact ⟨0, Nat.zero_le _, rfl, rfl, Below.refl _ _⟩
  case round =>
    obtain ⟨k, hk, rfl, rfl, hb⟩ := hrel
    have hbs := hb.size
    by_cases hlt : k < n
    · obtain ⟨b, off, rfl, hb', hc⟩ := (h.below (hb.mono hB)).at_ (by rw [Hl.out]; omega)
      have c1 := hc k (by rw [Hl.out]; omega)
      clear hc
      have hle := txtZ_len l k
      have htk := txtZ_take (l := l) (k := k) (by rw [Hl.out]; omega)
      have hsz := strOfNums_size (txtZ (l.take k))
      have hsz2 := strOfNums_size (Lib.encodeRuneZ (nth l k))
      have hr4 := (Lib.encodeRuneZ_length (nth l k)).2
      have hst := strOf_app (txtZ (l.take k)) (Lib.encodeRuneZ (nth l k))
      rw [← htk] at hst
      have hlet := letter_str (nth l k)
      generalize nth l k = p at *
      generalize hsx : strOfNums (txtZ (l.take k)) = sx at *
      generalize hsp : strOfNums (Lib.encodeRuneZ p) = sp at *
      have HL := Lib.hid hlet; clear hlet
      have HS := Lib.hid hst; clear hst
      have g1 : sx.size ≤ 4 * k := by omega
      have g2 : sp.size ≤ 4 := by omega
      clear hsz hsz2 htk hsx hsp hle hr4
      go_wp2_with (go_at_call 35; refine (HL.out _).mono ?_; rintro e w1 ⟨rfl, hb1⟩)
      go_roundw
      case rel => exact ⟨k + 1, by omega, by go_num, by rw [HS.out], hb.trans (hb1.mono hbs)⟩
      case measure => simp [intOf]; omega
    · have hx : txtZ (l.take k) = txtZ l := by rw [List.take_of_length_le (by rw [Hl.out]; omega)]
      rw [hx]
      go_wp2
      go_ret
      exact ⟨rfl, hb⟩
end Go.Proofs.Ytihfdmjejllhnaa
