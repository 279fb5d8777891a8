/- The program's sets: Has. -/
import Derived.Test.YtihfdmjejllhnaaRgI
namespace Go.Proofs.Ytihfdmjejllhnaa
open Go.RowKit BigFrame
set_option linter.unusedVariables false
set_option linter.unusedSimpArgs false
set_option maxRecDepth 100000

theorem has1_any (pb : Nat) (p lo hi : Int) (W : World) (hc : W.cell? ⟨pb, 0, none⟩ = some (.int .i64 p)) (hpb : pb < W.heap.size) :
    Calls Try.prog 49 #[.agg #[.int .i64 lo, .int .i64 hi], .pointer (some ⟨pb, 0, none⟩)] W fun e w' => e = .returned (.bool (decide (lo ≤ p) && decide (p ≤ hi))) ∧ Below W.heap.size W w' := by
  have HB := Lib.hid ((Below.refl W.heap.size W).alloc (Nat.le_refl _) (.cells #[.int .i64 lo, .int .i64 hi] 59))
  have z : (W.alloc (.cells #[.int .i64 lo, .int .i64 hi] 59)).cell? ⟨pb, 0, none⟩ = some (.int .i64 p) := ((Below.refl W.heap.size W).alloc (Nat.le_refl _) _).cell (p := ⟨pb, 0, none⟩) hpb |>.trans hc
  by_cases h1 : lo ≤ p
  · have d1 : decide (lo ≤ p) = true := decide_eq_true h1
    rw [d1]
    by_cases h2 : p ≤ hi
    · have d2 : decide (p ≤ hi) = true := decide_eq_true h2
      rw [d2]
      go_enter Try.func49, Try.ntmps49
      go_wp2
      go_ret
      exact ⟨rfl, HB.out⟩
    · have d2 : decide (p ≤ hi) = false := decide_eq_false h2
      rw [d2]
      go_enter Try.func49, Try.ntmps49
      go_wp2
      go_ret
      exact ⟨rfl, HB.out⟩
  · have d1 : decide (lo ≤ p) = false := decide_eq_false h1
    rw [d1]
    go_enter Try.func49, Try.ntmps49
    go_wp2
    go_ret
    exact ⟨rfl, HB.out⟩

set_option maxHeartbeats 1000000 in
theorem idx_any (A : Option Addr) (n c : Nat) (l : List Rg) (pb : Nat) (p : Int) (w : World) (B : Nat) (hB : B ≤ w.heap.size) (hr : RdG w B A l) (hl : l.length = n) (hn : n ≤ 400) (hc : w.cell? ⟨pb, 0, none⟩ = some (.int .i64 p)) (hpb : pb < w.heap.size) :
    Calls Try.prog 60 #[.slice A n c, .func (.func 49) #[] #[.pointer (some ⟨pb, 0, none⟩)]] w fun e w' => (∃ r : Int, e = .returned (.int .i64 r) ∧ decide (0 ≤ r) = memR l p) ∧ Below w.heap.size w w' := by
  have HR := Lib.hid hr; have HL := Lib.hid hl; have HC := Lib.hid hc
  clear hr hl hc
  go_enter Try.func60, Try.ntmps60
  go_wp2_with fail
  go_loopw [8] (fun i wr => ∃ k : Nat, k ≤ n ∧ i = .int .i64 (k : Int) ∧ Hid ((l.take k).any (fun r => decide (r.1 ≤ p) && decide (p ≤ r.2)) = false) ∧ Hid (Below w.heap.size w wr)) (fun i _ => n - (intOf i).toNat)
  case atStart => exact ⟨0, Nat.zero_le _, rfl, rfl, Below.refl _ _⟩
  case round =>
    as_aux_lemma =>
      obtain ⟨k, hk, rfl, HT, HB⟩ := hrel
      have hsz := HB.out.size
      by_cases hlt : k < n
      · as_aux_lemma =>
          obtain ⟨b, off, rfl, hb, hcs⟩ := (HR.out.below (HB.out.mono hB)).at_ (by rw [HL.out]; omega)
          obtain ⟨z1, z2⟩ := hcs k (by rw [HL.out]; exact hlt)
          have hy := any_yesR (f := fun r => decide (r.1 ≤ p) && decide (p ≤ r.2)) (l := l) (k := k) (by rw [HL.out]; exact hlt)
          have ht := any_takeR (f := fun r => decide (r.1 ≤ p) && decide (p ≤ r.2)) (l := l) (k := k) (by rw [HL.out]; exact hlt) HT.out
          generalize nthR l k = r at *
          obtain ⟨lo, hi⟩ := r
          simp only at z1 z2 hy ht
          have h1 := has1_any pb p lo hi wr ((HB.out.cell (p := ⟨pb, 0, none⟩) hpb).trans HC.out) (by omega)
          have H1 := Lib.hid h1; have HY := Lib.hid hy; have HT2 := Lib.hid ht
          clear hcs hy ht h1 HC
          generalize (decide (lo ≤ p) && decide (p ≤ hi)) = q at *
          cases q
          · go_wp2_with fail
            refine H1.out.mono ?_
            rintro e w1 ⟨rfl, hb1⟩
            have HB1 := Lib.hid (HB.out.trans (hb1.mono hsz))
            clear hb1
            go_wp2_with fail
            go_roundw
            case rel => exact ⟨k + 1, by omega, by go_num, HT2.out (by first | trivial | rfl), HB1.out⟩
            case measure => simp [intOf]; omega
          · go_wp2_with fail
            refine H1.out.mono ?_
            rintro e w1 ⟨rfl, hb1⟩
            have HB1 := Lib.hid (HB.out.trans (hb1.mono hsz))
            have HY2 := Lib.hid (show memR l p = true from HY.out (by first | trivial | rfl))
            clear hb1
            go_wp2_with fail
            go_ret
            exact ⟨⟨(k : Int), rfl, by rw [HY2.out]; exact decide_eq_true (by omega)⟩, HB1.out⟩
      · as_aux_lemma =>
          have hx := HT.out
          rw [List.take_of_length_le (by rw [HL.out]; omega)] at hx
          have HX := Lib.hid (show memR l p = false from hx)
          clear hx
          go_wp2_with fail
          go_ret
          exact ⟨⟨-1, rfl, by rw [HX.out]; rfl⟩, HB.out⟩

theorem con_any (A : Option Addr) (n c : Nat) (l : List Rg) (pb : Nat) (p : Int) (w : World) (B : Nat) (hB : B ≤ w.heap.size) (hr : RdG w B A l) (hl : l.length = n) (hn : n ≤ 400) (hc : w.cell? ⟨pb, 0, none⟩ = some (.int .i64 p)) (hpb : pb < w.heap.size) :
    Calls Try.prog 48 #[.slice A n c, .func (.func 49) #[] #[.pointer (some ⟨pb, 0, none⟩)]] w fun e w' => e = .returned (.bool (memR l p)) ∧ Below w.heap.size w w' := by
  have HI := Lib.hid (idx_any A n c l pb p w B hB hr hl hn hc hpb)
  clear hr hl hc
  go_enter Try.func48, Try.ntmps48
  go_wp2_with fail
  refine HI.out.mono ?_
  rintro e w1 ⟨⟨r, rfl, hx⟩, hb⟩
  have HX := Lib.hid hx; have HB := Lib.hid hb
  clear hx hb HI
  go_wp2_with fail
  go_ret
  exact ⟨by rw [← HX.out]; rfl, HB.out⟩

set_option maxHeartbeats 1000000 in
theorem has_any (A : Option Addr) (n c : Nat) (l : List Rg) (p : Int) (w : World) (B : Nat) (hB : B ≤ w.heap.size) (hr : RdG w B A l) (hl : l.length = n) (hn : n ≤ 400) :
    Calls Try.prog 29 #[.slice A n c, .int .i64 p] w fun e w' => e = .returned (.bool (inR l p)) ∧ Below w.heap.size w w' := by
  obtain ⟨w0, hw0⟩ : ∃ w0, w0 = w.alloc (.cells #[.int .i64 p] 3) := ⟨_, rfl⟩
  have hb0 : Below w.heap.size w w0 := by rw [hw0]; exact (Below.refl _ w).alloc (Nat.le_refl _) _
  have hs0 : w0.heap.size = w.heap.size + 1 := by rw [hw0]; simp
  have hc0 : w0.cell? ⟨w.heap.size, 0, none⟩ = some (.int .i64 p) := by
    rw [hw0, cell_of_row _ w.heap.size 0 #[.int .i64 p] 3 (0, 0) (heap_alloc_new w _)]; rfl
  have hcon := con_any A n c l w.heap.size p w0 B (by omega) (hr.below (hb0.mono hB)) hl hn hc0 (by omega)
  rw [hw0] at hcon
  have HCON := Lib.hid hcon; have HB0 := Lib.hid hb0; have HS0 := Lib.hid hs0; have HW0 := Lib.hid hw0
  clear hcon hb0 hs0 hc0 hw0 hr hl
  by_cases h0 : p < 0
  · have e : inR l p = false := inR_low h0
    have HE := Lib.hid e
    have d0 : decide (p < 0) = true := decide_eq_true h0
    rw [HW0.out] at HB0
    clear e HCON HS0 HW0
    go_enter Try.func29, Try.ntmps29
    go_wp2_with fail
    go_ret
    exact ⟨by rw [HE.out]; rfl, HB0.out⟩
  · have d0 : decide (p < 0) = false := decide_eq_false h0
    by_cases h1 : 1114111 < p
    · have e : inR l p = false := inR_high h1
      have HE := Lib.hid e
      have d1 : decide (1114111 < p) = true := decide_eq_true h1
      rw [HW0.out] at HB0
      clear e HCON HS0 HW0
      go_enter Try.func29, Try.ntmps29
      go_wp2_with fail
      go_ret
      exact ⟨by rw [HE.out]; rfl, HB0.out⟩
    · have d1 : decide (1114111 < p) = false := decide_eq_false h1
      have e : inR l p = memR l p := by
        unfold inR isPt MP
        rw [decide_eq_true (by omega : 0 ≤ p), decide_eq_true (by omega : p ≤ 1114111)]; rfl
      have HE := Lib.hid e
      clear e
      go_enter Try.func29, Try.ntmps29
      go_wp2_with fail
      refine HCON.out.mono ?_
      rintro e w1 ⟨rfl, hb1⟩
      rw [← HW0.out] at hb1
      have HB1 := Lib.hid (HB0.out.trans (hb1.mono HB0.out.size))
      clear hb1 HW0 HCON
      go_wp2_with fail
      go_ret
      exact ⟨by rw [HE.out]; rfl, HB1.out⟩
end Go.Proofs.Ytihfdmjejllhnaa
