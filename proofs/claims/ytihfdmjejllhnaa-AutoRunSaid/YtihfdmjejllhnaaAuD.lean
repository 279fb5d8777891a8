/- The contracts of ref1.Step, ref1.RunPoints, ref1.Run and auto.Run. -/
import Derived.Test.YtihfdmjejllhnaaAuB
import Derived.Test.YtihfdmjejllhnaaAuC
import Derived.Test.YtihfdmjejllhnaaPtC
import Derived.Deep.RegionHeld3
import Derived.Deep.DrawnRows
namespace Go.Proofs.Ytihfdmjejllhnaa
open Go.RowKit
set_option linter.unusedVariables false
set_option linter.unusedSimpArgs false
set_option maxRecDepth 100000

theorem stp_at {ms : List Mv} {j : Nat} {m : Mv} {p : Int} (h : ms[j]? = some m) : stp (ms.drop j) p = if m.1 ≤ p ∧ p ≤ m.2.1 then m.2.2 else stp (ms.drop (j + 1)) p := by
  obtain ⟨hj, rfl⟩ := List.getElem?_eq_some_iff.1 h
  rw [List.drop_eq_getElem_cons hj, stp]

set_option maxHeartbeats 1000000 in
theorem r1Step_any (A : Option Addr) (n c k : Nat) (l : List St) (s : St) (p : Int) (w : World) (B : Nat) (h : (shL shState).rd w (Lo B) l [.slice A n c]) (hB : B ≤ w.heap.size) (hl : l.length = n) (hn : n ≤ 1000000000) (hs : l[k]? = some s) :
    Calls Try.prog 54 #[.agg #[.slice A n c], .int .i64 k, .int .i64 p] w fun e w' => e = .returned (.int .i64 (stp s.2 p)) ∧ Below w.heap.size w w' := by
  have hk : k < l.length := (List.getElem?_eq_some_iff.1 hs).1
  obtain ⟨b, off, rfl, hb, hst⟩ := states_at h (by omega)
  obtain ⟨g1, A', c', g2, g3, g4, g5⟩ := hst k s hs
  clear hst g1
  rw [hl] at hk
  obtain ⟨ms, hms⟩ : ∃ ms, ms = s.2 := ⟨_, rfl⟩
  obtain ⟨m, hmm⟩ : ∃ m, m = ms.length := ⟨_, rfl⟩
  rw [← hms] at g2 g3 g5
  rw [← hms]
  rw [← hmm] at g2 g3 g5
  have HM := Lib.hid hmm; clear hmm
  have HS := Lib.hid hs; clear hs
  have HMS := Lib.hid hms; clear hms
  have Hl := Lib.hid hl; clear hl
  unfold maxLen at g4
  have hb0 : Below w.heap.size w (w.alloc (.cells #[.slice (some ⟨b, off, none⟩) n c] 30)) := (Below.refl _ _).alloc (Nat.le_refl _) _
  have hW0 : (w.alloc (.cells #[.slice (some ⟨b, off, none⟩) n c] 30)).heap.size = w.heap.size + 1 := by simp
  have hc0 : (w.alloc (.cells #[.slice (some ⟨b, off, none⟩) n c] 30)).cell? ⟨w.heap.size, 0, none⟩ = some (.slice (some ⟨b, off, none⟩) n c) := by simp
  have hbB : b < w.heap.size := Nat.lt_of_lt_of_le hb hB
  go_enter Try.func54, Try.ntmps54
  go_wp2
  generalize w.alloc (.cells #[.slice (some ⟨b, off, none⟩) n c] 30) = W0 at *
  go_loopw [7] (fun i wr => ∃ j : Nat, j ≤ m ∧ i = .int .i64 j ∧ Hid (stp (ms.drop j) p = stp ms p) ∧ Below (w.heap.size + 1) W0 wr) (fun i _ => m - (intOf i).toNat)
  case atStart => exact ⟨0, Nat.zero_le _, rfl, rfl, Below.refl _ _⟩
  case round =>
    obtain ⟨j, hj, rfl, HO, hbr⟩ := hrel
    have hbn := hb0.trans (hbr.mono (Nat.le_succ _))
    have hcr := (hbr.cell (p := ⟨w.heap.size, 0, none⟩) (by simp)).trans hc0
    have q2 := (hbn.cell (p := ⟨b, off + k * 2 + 1, none⟩) hbB).trans g2
    have hzr := hbr.size
    have hz3 : w.heap.size < wr.heap.size := by omega
    clear hc0
    by_cases hjm : j < m
    · obtain ⟨mv, hmv⟩ : ∃ mv, ms[j]? = some mv := ⟨_, List.getElem?_eq_getElem (by rw [← HM.out]; exact hjm)⟩
      obtain ⟨b2, off2, rfl, hb2, hmt⟩ := moves_at (Sh.below g5 (hbn.mono hB)) (by rw [← HM.out]; omega)
      obtain ⟨m1, m2, m3⟩ := hmt j mv hmv
      have hstep := stp_at (p := p) hmv
      rw [HO.out] at hstep
      obtain ⟨x, y, z⟩ := mv
      clear hmt HO hmv
      dsimp only at m1 m2 m3 hstep
      have HST := Lib.hid hstep; clear hstep
      by_cases c1 : x ≤ p
      · have d1 : decide (x ≤ p) = true := decide_eq_true c1
        by_cases c2 : p ≤ y
        · have d2 : decide (p ≤ y) = true := decide_eq_true c2
          go_wp2
          go_ret
          exact ⟨ret_eq (by rw [HST.out, if_pos ⟨c1, c2⟩]; rfl), hbn.alloc (by omega) _⟩
        · have d2 : decide (p ≤ y) = false := decide_eq_false c2
          go_wp2
          go_roundw
          case rel => exact ⟨j + 1, by omega, by go_num, by show _ = _; rw [HST.out, if_neg (fun hh => c2 hh.2)], hbr.alloc (by omega) _⟩
          case measure => simp [intOf]; omega
      · have d1 : decide (x ≤ p) = false := decide_eq_false c1
        go_wp2
        go_roundw
        case rel => exact ⟨j + 1, by omega, by go_num, by show _ = _; rw [HST.out, if_neg (fun hh => c1 hh.1)], hbr.alloc (by omega) _⟩
        case measure => simp [intOf]; omega
    · have hx : stp ms p = -1 := by rw [← HO.out, List.drop_eq_nil_of_le (by rw [← HM.out]; omega)]; rfl
      have HX := Lib.hid hx; clear hx
      go_wp2
      go_ret
      exact ⟨ret_eq (by rw [HX.out]; rfl), hbn⟩

/-- By which rule a list of points is taken. -/
def runP (l : List St) : Nat → List Int → Int
  | k, [] => (l[k]?.map (·.1)).getD 0
  | k, p :: r => if stp ((l[k]?.map (·.2)).getD []) p < 0 then -1 else runP l (stp ((l[k]?.map (·.2)).getD []) p).toNat r
def runA (l : List St) (ps : List Int) : Int := if l.length = 0 then -1 else runP l 0 ps

theorem runP_end {l : List St} {k : Nat} {s : St} (h : l[k]? = some s) : runP l k [] = s.1 := by simp [runP, h]
theorem runP_step {l : List St} {k i : Nat} {s : St} {ps : List Int} (h : l[k]? = some s) (hi : i < ps.length) :
    runP l k (ps.drop i) = if stp s.2 (nth ps i) < 0 then -1 else runP l (stp s.2 (nth ps i)).toNat (ps.drop (i + 1)) := by
  rw [List.drop_eq_getElem_cons hi, runP, nth_get hi]
  simp [h]

set_option maxHeartbeats 1000000 in
theorem r1RunPoints_any (A A2 : Option Addr) (n c m c2 : Nat) (l : List St) (ps : List Int) (w : World) (B : Nat) (h : (shL shState).rd w (Lo B) l [.slice A n c]) (hB : B ≤ w.heap.size) (hl : l.length = n) (hok : okA l = true)
    (h2 : RdI w w.heap.size A2 ps) (hm : ps.length = m) (hml : m ≤ 1000000000) (hps : ∀ p ∈ ps, 0 ≤ p ∧ p ≤ 1114111) :
    Calls Try.prog 37 #[.agg #[.slice A n c], .slice A2 m c2] w fun e w' => e = .returned (.int .i64 (runA l ps)) ∧ Below w.heap.size w w' := by
  have hlen := okA_len hok
  rw [hl] at hlen
  have Hl := Lib.hid hl; clear hl
  have Hm := Lib.hid hm; clear hm
  have Hp := Lib.hid hps; clear hps
  have Ho := Lib.hid hok; clear hok
  have hb0 : Below w.heap.size w (w.alloc (.cells #[.slice A n c] 30)) := (Below.refl _ _).alloc (Nat.le_refl _) _
  have hW0 : (w.alloc (.cells #[.slice A n c] 30)).heap.size = w.heap.size + 1 := by simp
  have hc0 : (w.alloc (.cells #[.slice A n c] 30)).cell? ⟨w.heap.size, 0, none⟩ = some (.slice A n c) := by simp
  by_cases hz : n = 0
  · have hr : runA l ps = -1 := by unfold runA; rw [if_pos (by rw [Hl.out]; exact hz)]
    have HR := Lib.hid hr; clear hr
    subst hz
    go_enter Try.func37, Try.ntmps37
    go_wp2
    go_ret
    exact ⟨ret_eq (by rw [HR.out]; rfl), hb0⟩
  have hzb : ((n : Int) == 0) = false := by simp; omega
  have hr : runA l ps = runP l 0 ps := by unfold runA; rw [if_neg (by rw [Hl.out]; exact hz)]
  have HR := Lib.hid hr; clear hr
  go_enter Try.func37, Try.ntmps37
  go_wp2
  generalize w.alloc (.cells #[.slice A n c] 30) = W0 at *
  go_loopw [5, 6] (fun a i wr => ∃ k j : Nat, k < n ∧ j ≤ m ∧ a = .int .i64 k ∧ i = .int .i64 j ∧ Hid (runP l k (ps.drop j) = runA l ps) ∧ Below (w.heap.size + 1) W0 wr) (fun _ i _ => m - (intOf i).toNat)
  case atStart => exact ⟨0, 0, by omega, Nat.zero_le _, rfl, rfl, by show _ = _; rw [HR.out]; rfl, Below.refl _ _⟩
  case round =>
    obtain ⟨k, j, hk, hj, rfl, rfl, HO, hbr⟩ := hrel
    have hbn := hb0.trans (hbr.mono (Nat.le_succ _))
    have hcr := (hbr.cell (p := ⟨w.heap.size, 0, none⟩) (by simp)).trans hc0
    have hzr := hbr.size
    have hz3 : w.heap.size < wr.heap.size := by omega
    clear hc0
    obtain ⟨s, hs⟩ : ∃ s, l[k]? = some s := ⟨_, List.getElem?_eq_getElem (by rw [Hl.out]; exact hk)⟩
    by_cases hjm : j < m
    · obtain ⟨b2, off2, rfl, hb2, hc2⟩ := (h2.below hbn).at_ (by rw [Hm.out]; omega)
      have p1 := hc2 j (by rw [Hm.out]; exact hjm)
      have hst := runP_step (ps := ps) (i := j) hs (by rw [Hm.out]; exact hjm)
      rw [HO.out] at hst
      obtain ⟨hq0, hq1⟩ := Hp.out (nth ps j) (by rw [nth_get (by rw [Hm.out]; exact hjm)]; exact List.getElem_mem _)
      have hsr := stp_range (p := nth ps j) (okA_state Ho.out hs).2
      rw [Hl.out] at hsr
      have hbd := hbn.drew
      have hcall := r1Step_any A n c k l s (nth ps j) wr.drew B (Sh.below h (hbd.mono hB)) (Nat.le_trans hB hbd.size) Hl.out (by omega) hs
      generalize nth ps j = p at *
      generalize stp s.2 p = q at *
      clear hc2
      have HS := Lib.hid hs; clear hs
      have HST := Lib.hid hst; clear hst
      have HC := Lib.hid hcall; clear hcall
      obtain ⟨hs0, hs1⟩ := hsr
      go_wp2_with fail
      go_region_held3 (fun w' => w'.cell? ⟨w.heap.size, 0, none⟩ = some (.slice A n c) ∧ w'.cell? ⟨b2, off2 + j, none⟩ = some (.int .i64 p)) (go_keep)
        ((go_at_call 54; refine HC.out.mono ?_; rintro e w1 ⟨rfl, hb1⟩; have z1 := (hb1.cell (p := ⟨w.heap.size, 0, none⟩) hz3).trans hcr; have z2 := (hb1.cell (p := ⟨b2, off2 + j, none⟩) (show b2 < wr.heap.size from by have : b2 < w.heap.size := hb2; omega)).trans p1))
      have hb2 : Below (w.heap.size + 1) W0 w1 := (hbr.drew).trans (hb1.mono (show w.heap.size + 1 ≤ wr.heap.size from by omega))
      have hb3 := hb0.trans (hb2.mono (Nat.le_succ _))
      by_cases hq : q < 0
      · go_wp2
        go_ret
        exact ⟨ret_eq (by rw [HST.out, if_pos hq]; rfl), hb3⟩
      · go_wp2
        go_roundw
        case rel => exact ⟨q.toNat, j + 1, by omega, by omega, by go_num, by go_num, by show _ = _; rw [HST.out, if_neg hq], hb2⟩
        case measure => simp [intOf]; omega
    · have hx : runA l ps = s.1 := by rw [← HO.out, List.drop_eq_nil_of_le (by rw [Hm.out]; omega), runP_end hs]
      have HX := Lib.hid hx; clear hx
      obtain ⟨b, off, rfl, hb, hst⟩ := states_at (Sh.below h (hbn.mono hB)) (by rw [Hl.out]; omega)
      obtain ⟨g1, _⟩ := hst k s hs
      clear hst
      have HS := Lib.hid hs; clear hs
      go_wp2
      go_ret
      exact ⟨ret_eq (by rw [HX.out]; rfl), hbn⟩
end Go.Proofs.Ytihfdmjejllhnaa
