/- The contracts of ref1.Run and auto.Run: by which rule a text is taken. -/
import Derived.Test.YtihfdmjejllhnaaAuD
namespace Go.Proofs.Ytihfdmjejllhnaa
open Go.RowKit
set_option linter.unusedVariables false
set_option linter.unusedSimpArgs false
set_option maxRecDepth 100000

theorem pts_range (s : ByteArray) : ∀ (f k : Nat), s.size - k ≤ f → ∀ p ∈ pts s k, 0 ≤ p ∧ p ≤ 1114111 := by
  intro f
  induction f with
  | zero => intro k hf p hp; rw [pts_end s k (by omega)] at hp; cases hp
  | succ f ih =>
    intro k hf p hp
    by_cases h : k < s.size
    · have hfa := ptS_facts s k h
      rw [pts_step s k h] at hp
      rcases List.mem_cons.1 hp with rfl | hp
      · exact hfa.2
      · exact ih _ (by have := hfa.1; omega) p hp
    · rw [pts_end s k h] at hp; cases hp
theorem pts_len_le (s : ByteArray) : ∀ (f k : Nat), s.size - k ≤ f → (pts s k).length ≤ s.size - k := by
  intro f
  induction f with
  | zero => intro k hf; rw [pts_end s k (by omega)]; simp
  | succ f ih =>
    intro k hf
    by_cases h : k < s.size
    · have hfa := (ptS_facts s k h).1
      rw [pts_step s k h, List.length_cons]
      have := ih (k + (ptS s k).2.1) (by omega)
      omega
    · rw [pts_end s k h]; simp

theorem r1Run_any (A : Option Addr) (n c : Nat) (l : List St) (s : ByteArray) (w : World) (B : Nat) (h : (shL shState).rd w (Lo B) l [.slice A n c]) (hB : B ≤ w.heap.size) (hl : l.length = n) (hok : okA l = true) (hs : s.size ≤ 1000000000) :
    Calls Try.prog 17 #[.agg #[.slice A n c], .string s] w fun e w' => e = .returned (.int .i64 (runA l (pts s 0))) ∧ Below w.heap.size w w' := by
  have hpl := pts_len_le s s.size 0 (by omega)
  have hpr := pts_range s s.size 0 (by omega)
  have Hl := Lib.hid hl; clear hl
  have Hok := Lib.hid hok; clear hok
  have HP := Lib.hid hpr; clear hpr
  have hb0 : Below w.heap.size w (w.alloc (.cells #[.slice A n c] 30)) := (Below.refl _ _).alloc (Nat.le_refl _) _
  have hW0 : (w.alloc (.cells #[.slice A n c] 30)).heap.size = w.heap.size + 1 := by simp
  have hc0 : (w.alloc (.cells #[.slice A n c] 30)).cell? ⟨w.heap.size, 0, none⟩ = some (.slice A n c) := by simp
  have H8 : s.size * 8 ≤ 140737488355328 := by omega
  have H9 : s.size ≤ 140737488351232 := by omega
  have hcall := r1Points_any s (w.alloc (.cells #[.slice A n c] 30)) H9 H8
  have HC := Lib.hid hcall; clear hcall
  go_enter Try.func17, Try.ntmps17
  go_wp2_with fail
  generalize w.alloc (.cells #[.slice A n c] 30) = W0 at *
  refine HC.out.mono ?_
  rintro e w1 ⟨v1, rfl, hown1, hb1⟩
  obtain ⟨A1, c1, rfl, hc1, hm1, hr1⟩ := own_form hown1
  have hz1 := hb1.size
  have hbn := hb0.trans (hb1.mono (by omega))
  have hc1' := (hb1.cell (p := ⟨w.heap.size, 0, none⟩) (show w.heap.size < W0.heap.size from by omega)).trans hc0
  have hcall := r1RunPoints_any A A1 n c _ c1 l (pts s 0) w1 B (Sh.below h (hbn.mono hB)) (by omega) Hl.out Hok.out hr1 rfl (by omega) HP.out
  have HC2 := Lib.hid hcall; clear hcall
  clear hc0 hown1 hr1
  go_wp2_with fail
  refine HC2.out.mono ?_
  rintro e w2 ⟨rfl, hb2⟩
  go_wp2
  go_ret
  exact ⟨rfl, hbn.trans (hb2.mono (by omega))⟩

set_option maxHeartbeats 2000000 in
theorem autoRun_any (A : Option Addr) (n c : Nat) (l : List St) (s : ByteArray) (w : World) (B : Nat) (h : (shL shState).rd w (Lo B) l [.slice A n c]) (hB : B ≤ w.heap.size) (hl : l.length = n) (hn : n ≤ 140737488355328) (hs : s.size ≤ 1000000000) :
    Calls Try.prog 16 #[.agg #[.slice A n c], .string s] w fun e w' => e = .returned (.int .i64 (if okA l = true then runA l (pts s 0) else -1)) ∧ Below w.heap.size w w' := by
  have hpl := pts_len_le s s.size 0 (by omega)
  have hpr := pts_range s s.size 0 (by omega)
  have Hl := Lib.hid hl; clear hl
  have HP := Lib.hid hpr; clear hpr
  have hb0 : Below w.heap.size w (w.alloc (.cells #[.slice A n c] 30)) := (Below.refl _ _).alloc (Nat.le_refl _) _
  have hW0 : (w.alloc (.cells #[.slice A n c] 30)).heap.size = w.heap.size + 1 := by simp
  have hc0 : (w.alloc (.cells #[.slice A n c] 30)).cell? ⟨w.heap.size, 0, none⟩ = some (.slice A n c) := by simp
  have H8 : s.size * 8 ≤ 140737488355328 := by omega
  have H9 : s.size ≤ 140737488351232 := by omega
  have hcall := autoOk_any A n c l (w.alloc (.cells #[.slice A n c] 30)) (Sh.up (Sh.below h (hb0.mono hB)) (by omega)) Hl.out hn
  by_cases hok : okA l = true
  · rw [hok] at hcall
    rw [if_pos hok]
    have hlen := okA_len hok
    rw [Hl.out] at hlen
    have Hok := Lib.hid hok; clear hok
    have HC := Lib.hid hcall; clear hcall
    by_cases hz : n = 0
    · have hr : runA l (pts s 0) = -1 := by unfold runA; rw [if_pos (by rw [Hl.out]; exact hz)]
      have HR := Lib.hid hr; clear hr
      subst hz
      go_enter Try.func16, Try.ntmps16
      go_wp2_with fail
      generalize w.alloc (.cells #[.slice A 0 c] 30) = W0 at *
      refine HC.out.mono ?_
      rintro e w1 ⟨rfl, hb1⟩
      have hc1 := (hb1.cell (p := ⟨w.heap.size, 0, none⟩) (show w.heap.size < W0.heap.size from by omega)).trans hc0
      clear hc0
      go_wp2
      go_ret
      exact ⟨ret_eq (by rw [HR.out]; rfl), hb0.trans (hb1.mono (by omega))⟩
    have hzb : ((n : Int) == 0) = false := by simp; omega
    have hr : runA l (pts s 0) = runP l 0 (pts s 0) := by unfold runA; rw [if_neg (by rw [Hl.out]; exact hz)]
    have HR := Lib.hid hr; clear hr
    go_enter Try.func16, Try.ntmps16
    go_wp2_with fail
    generalize w.alloc (.cells #[.slice A n c] 30) = W0 at *
    refine HC.out.mono ?_
    rintro e w1 ⟨rfl, hb1⟩
    have hz1 := hb1.size
    have hc1 := (hb1.cell (p := ⟨w.heap.size, 0, none⟩) (show w.heap.size < W0.heap.size from by omega)).trans hc0
    have hcall := points_any s w1 H9 H8
    have HC2 := Lib.hid hcall; clear hcall
    clear hc0
    go_wp2_with fail
    refine HC2.out.mono ?_
    rintro e w2 ⟨v2, rfl, hown2, hb2⟩
    obtain ⟨A2, c2, rfl, hcc2, hm2, hr2⟩ := own_form hown2
    have hz2 := hb2.size
    have hcw2 := (hb2.cell (p := ⟨w.heap.size, 0, none⟩) (show w.heap.size < w1.heap.size from by omega)).trans hc1
    have hbw2 : Below w.heap.size w w2 := (hb0.trans (hb1.mono (by omega))).trans (hb2.mono (by omega))
    clear hc1 hown2
    generalize hps : pts s 0 = ps at *
    have HPS := Lib.hid hps; clear hps
    obtain ⟨m, hm⟩ : ∃ m, m = ps.length := ⟨_, rfl⟩
    rw [← hm] at hpl hcc2
    rw [← hm]
    have Hm := Lib.hid hm; clear hm
    go_wp2
    go_loopw [5, 20] (fun a i wr => ∃ k j : Nat, k < n ∧ j ≤ m ∧ a = .int .i64 k ∧ i = .int .i64 j ∧ Hid (runP l k (ps.drop j) = runA l ps) ∧ Below w2.heap.size w2 wr) (fun _ i _ => m - (intOf i).toNat)
    case atStart => exact ⟨0, 0, by omega, Nat.zero_le _, rfl, rfl, by show _ = _; rw [HR.out]; rfl, Below.refl _ _⟩
    case round =>
      obtain ⟨k, j, hk, hj, rfl, rfl, HO, hbr⟩ := hrel
      have hzr := hbr.size
      have hbn := hbw2.trans (hbr.mono (by omega))
      have hcr := (hbr.cell (p := ⟨w.heap.size, 0, none⟩) (show w.heap.size < w2.heap.size from by omega)).trans hcw2
      obtain ⟨st, hs⟩ : ∃ st, l[k]? = some st := ⟨_, List.getElem?_eq_getElem (by rw [Hl.out]; exact hk)⟩
      clear hcw2
      by_cases hjm : j < m
      · obtain ⟨b2, off2, rfl, hb2', hc2'⟩ := RdI.at_ (Rd.below hr2 hbr) (by rw [← Hm.out]; omega)
        have p1 := hc2' j (by rw [← Hm.out]; exact hjm)
        have hst := runP_step (ps := ps) (i := j) hs (by rw [← Hm.out]; exact hjm)
        rw [HO.out] at hst
        obtain ⟨hq0, hq1⟩ := HP.out (nth ps j) (by rw [nth_get (by rw [← Hm.out]; exact hjm)]; exact List.getElem_mem _)
        have hsr := stp_range (p := nth ps j) (okA_state Hok.out hs).2
        rw [Hl.out] at hsr
        have hcall := step_any A n c k l st (nth ps j) wr B (Sh.below h (hbn.mono hB)) (by omega) Hl.out Hok.out hs hq0 hq1
        generalize nth ps j = p at *
        generalize stp st.2 p = q at *
        clear hc2'
        have HS := Lib.hid hs; clear hs
        have HST := Lib.hid hst; clear hst
        have HC3 := Lib.hid hcall; clear hcall
        obtain ⟨hs0, hs1⟩ := hsr
        by_cases hq : q < 0
        · go_wp2_with (go_at_call 36; refine HC3.out.mono ?_; rintro e w3 ⟨rfl, hb3⟩)
          go_ret
          exact ⟨ret_eq (by rw [HPS.out, HST.out, if_pos hq]; rfl), hbn.trans (hb3.mono (by omega))⟩
        · go_wp2_with (go_at_call 36; refine HC3.out.mono ?_; rintro e w3 ⟨rfl, hb3⟩)
          go_roundw
          case rel => exact ⟨q.toNat, j + 1, by omega, by omega, by go_num, by go_num, by show _ = _; rw [HST.out, if_neg (by omega)], hbr.trans (hb3.mono hzr)⟩
          case measure => simp [intOf]; omega
      · have hx : runA l ps = st.1 := by rw [← HO.out, List.drop_eq_nil_of_le (by rw [← Hm.out]; omega), runP_end hs]
        have HX := Lib.hid hx; clear hx
        obtain ⟨b, off, rfl, hb, hst⟩ := states_at (Sh.below h (hbn.mono hB)) (by rw [Hl.out]; omega)
        obtain ⟨g1, _⟩ := hst k st hs
        clear hst
        have HS := Lib.hid hs; clear hs
        go_wp2
        go_ret
        exact ⟨ret_eq (by rw [HPS.out, HX.out]; rfl), hbn⟩
  · rw [if_neg hok]
    have hok' : okA l = false := by simpa using hok
    rw [hok'] at hcall
    have HC := Lib.hid hcall; clear hcall hok hok'
    go_enter Try.func16, Try.ntmps16
    go_wp2_with fail
    generalize w.alloc (.cells #[.slice A n c] 30) = W0 at *
    refine HC.out.mono ?_
    rintro e w1 ⟨rfl, hb1⟩
    go_wp2
    go_ret
    exact ⟨rfl, hb0.trans (hb1.mono (by omega))⟩
end Go.Proofs.Ytihfdmjejllhnaa
