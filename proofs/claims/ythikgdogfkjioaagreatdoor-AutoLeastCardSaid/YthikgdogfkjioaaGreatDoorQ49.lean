/- How many ranges the sets of moves hold. · The contract of auto.Ok: whether an automaton is valid. -/
import Derived.Test.YthikgdogfkjioaaGreatDoorQ34
import Derived.Test.YthikgdogfkjioaaGreatDoorQ26
import Derived.Test.YthikgdogfkjioaaGreatDoorQ11
namespace Go.Proofs.YthikgdogfkjioaaGreatDoor
set_option linter.unusedVariables false
set_option linter.unusedSimpArgs false

theorem sum_one {α : Type} [DecidableEq α] {g : α → Nat} {t0 : α} : ∀ {L : List α}, L.Nodup → t0 ∈ L → (L.map fun t => if t0 = t then g t + 1 else g t).sum = (L.map g).sum + 1
  | [], _, h => by simp at h
  | a :: L, hn, h => by
    rw [List.nodup_cons] at hn
    rw [List.map_cons, List.sum_cons, List.map_cons, List.sum_cons]
    by_cases e : t0 = a
    · subst e
      have : (L.map fun t => if t0 = t then g t + 1 else g t) = L.map g := List.map_congr_left fun t ht => by
        have hne : ¬ (t0 = t) := fun q => hn.1 (by rw [q]; exact ht)
        rw [if_neg hne]
      rw [this, if_pos rfl]; omega
    · have := sum_one (g := g) hn.2 (by rcases List.mem_cons.1 h with q | q; exact absurd q e; exact q)
      rw [this, if_neg e]; omega
theorem totR_moves (ms : List Mv) : totR ((tosOf ms).map (toSet ms)) = ms.length := by
  suffices H : ∀ n (ms : List Mv), ms.length = n → totR ((tosOf ms).map (toSet ms)) = n from H _ ms rfl
  intro n
  induction n with
  | zero => intro ms h; have : ms = [] := List.length_eq_zero_iff.1 h; subst this; rfl
  | succ n ih =>
    intro ms h
    rcases List.eq_nil_or_concat ms with q | ⟨r, m, rfl⟩
    · subst q; simp at h
    · have hr := ih r (by simpa using h)
      unfold totR at hr ⊢
      rw [List.map_map] at hr ⊢
      rw [List.concat_eq_append, tosOf_snoc]
      have hf : (List.length ∘ toSet (r ++ [m])) = fun t => if m.2.2 = t then (List.length ∘ toSet r) t + 1 else (List.length ∘ toSet r) t := by
        funext t
        simp only [Function.comp, toSet_snoc]
        split
        · simp
        · rfl
      rw [hf]
      by_cases e : m.2.2 ∈ tosOf r
      · have hnd : (tosOf r).Nodup := distinct_nodup _
        rw [if_pos e, sum_one hnd e, hr]
      · rw [if_neg e, List.map_append, List.sum_append]
        have h2 : ((tosOf r).map fun t => if m.2.2 = t then (List.length ∘ toSet r) t + 1 else (List.length ∘ toSet r) t) = (tosOf r).map (List.length ∘ toSet r) := List.map_congr_left fun t ht => by
          have hne : ¬ (m.2.2 = t) := fun q => e (by rw [q]; exact ht)
          rw [if_neg hne]
        rw [h2, hr]
        simp [toSet_none e]
theorem totR_setsP (l : List St) : totR (setsP l) = totM l := by
  induction l with
  | nil => rfl
  | cons s l ih =>
    have e : setsP (s :: l) = (tosOf s.2).map (toSet s.2) ++ setsP l := rfl
    have a : totR (setsP (s :: l)) = totR ((tosOf s.2).map (toSet s.2)) + totR (setsP l) := by rw [e]; unfold totR; rw [List.map_append, List.sum_append]
    rw [a, totR_moves, ih]
    unfold totM; simp
end Go.Proofs.YthikgdogfkjioaaGreatDoor
namespace Go.Proofs.YthikgdogfkjioaaGreatDoor
open Go.RowKit
set_option linter.unusedVariables false
set_option linter.unusedSimpArgs false
set_option maxRecDepth 100000

set_option maxHeartbeats 4000000 in
theorem autoOk_any (A : Option Addr) (n c : Nat) (l : List St) (w : World) (h : (shL shState).rd w (Lo w.heap.size) l [.slice A n c]) (hl : l.length = n) (hn : n ≤ 140737488355328) :
    Calls Tryz.prog 9 #[.agg #[.slice A n c]] w fun e w' => e = .returned (.bool (okA l)) ∧ Below w.heap.size w w' := by
  have Hl := Lib.hid hl
  clear hl
  by_cases h500 : 500 < n
  · go_enter Tryz.func9, Tryz.ntmps9
    go_wp2
    go_ret
    exact ⟨ret_eq (by rw [okA_big (by rw [Hl.out]; exact h500)]; rfl), (Below.refl _ _).alloc (Nat.le_refl _) _⟩
  · have hb0 : Below w.heap.size w (w.alloc (.cells #[.slice A n c] 24)) := (Below.refl _ _).alloc (Nat.le_refl _) _
    have hW0 : (w.alloc (.cells #[.slice A n c] 24)).heap.size = w.heap.size + 1 := by simp
    have hc0 : (w.alloc (.cells #[.slice A n c] 24)).cell? ⟨w.heap.size, 0, none⟩ = some (.slice A n c) := by simp
    go_enter Tryz.func9, Tryz.ntmps9
    go_wp2
    generalize w.alloc (.cells #[.slice A n c] 24) = W0 at *
    go_loopw [15] (fun i wr => ∃ k : Nat, k ≤ n ∧ i = .int .i64 k ∧ Hid ((l.take k).all (okS n) = true) ∧ Below (w.heap.size + 1) W0 wr) (fun i _ => n - (intOf i).toNat)
    case atStart => exact ⟨0, Nat.zero_le _, rfl, rfl, Below.refl _ _⟩
    case round =>
      obtain ⟨k, hk, rfl, HT, hbr⟩ := hrel
      have hcr := (hbr.cell (p := ⟨w.heap.size, 0, none⟩) (by simp)).trans hc0
      have hbw := hb0.trans (hbr.mono (Nat.le_succ _))
      have hzr := hbr.size
      by_cases hlt : k < n
      · obtain ⟨s, hs⟩ : ∃ s, l[k]? = some s := ⟨_, List.getElem?_eq_getElem (by rw [Hl.out]; exact hlt)⟩
        obtain ⟨b, off, rfl, hb, hst⟩ := states_at (Sh.below h hbw) (by rw [Hl.out]; omega)
        obtain ⟨g1, A', c', g2, g3, g4, g5⟩ := hst k s hs
        have HS := Lib.hid hs; clear hs
        clear hst
        obtain ⟨ms, hms⟩ : ∃ ms, ms = s.2 := ⟨_, rfl⟩
        obtain ⟨m, hm⟩ : ∃ m, m = ms.length := ⟨_, rfl⟩
        rw [← hms, ← hm] at g2 g3 g5
        have HMS := Lib.hid hms; clear hms
        have HM := Lib.hid hm; clear hm
        unfold maxLen at g4
        obtain ⟨wo, rfl⟩ : ∃ wo : World, wo = wr := ⟨_, rfl⟩
        have hz2 : w.heap.size < wo.heap.size := by omega
        obtain ⟨r, hr⟩ : ∃ r, r = s.1 := ⟨_, rfl⟩
        rw [← hr] at g1
        have HR := Lib.hid hr; clear hr
        by_cases hrule : r < -1
        · go_wp2
          go_ret
          exact ⟨ret_eq (by rw [okA_rule Hl.out HS.out (by rw [← HR.out]; exact hrule)]; rfl), hbw.alloc (by omega) _⟩
        have hb1 : Below (w.heap.size + 1) wo (wo.alloc (.cells #[.int .i64 r, .slice A' m c'] 30)) := (Below.refl _ _).alloc (by omega) _
        have hW1 : (wo.alloc (.cells #[.int .i64 r, .slice A' m c'] 30)).heap.size = wo.heap.size + 1 := by simp
        go_wp2
        generalize wo.alloc (.cells #[.int .i64 r, .slice A' m c'] 30) = W1 at *
        go_loopw [5, 25] (fun la i wq => ∃ (j : Nat) (last : Int), j ≤ m ∧ i = .int .i64 j ∧ la = .int .i64 last ∧ Hid (okM n last (ms.drop j) = okM n (-1) ms) ∧ Below (wo.heap.size + 1) W1 wq) (fun _ i _ => m - (intOf i).toNat)
        case atStart => exact ⟨0, -1, Nat.zero_le _, rfl, rfl, rfl, Below.refl _ _⟩
        case round =>
          obtain ⟨j, last, hj, rfl, rfl, HO, hbq'⟩ := hrel
          have hbq := hb1.trans (hbq'.mono (by omega))
          have hcq := (hbq.cell (p := ⟨w.heap.size, 0, none⟩) (by simp)).trans hcr
          have hzq := hbq.size
          have hzq' := hbq'.size
          have hz3 : w.heap.size < wr.heap.size := by omega
          have hbn := hbw.trans (hbq.mono (Nat.le_succ _))
          clear g1 g2 hcr hc0
          by_cases hjm : j < m
          · obtain ⟨mv, hmv⟩ : ∃ mv, ms[j]? = some mv := ⟨_, List.getElem?_eq_getElem (by rw [← HM.out]; exact hjm)⟩
            obtain ⟨b2, off2, rfl, hb2, hmt⟩ := moves_at (Sh.below g5 (hbq.mono (Nat.le_succ _))) (by rw [← HM.out]; omega)
            obtain ⟨m1, m2, m3⟩ := hmt j mv hmv
            have hstep := okM_step (n := n) (last := last) hmv
            rw [HO.out] at hstep
            obtain ⟨x, y, z⟩ := mv
            clear hmt HO hmv
            dsimp only at m1 m2 m3 hstep
            have HST := Lib.hid hstep; clear hstep
            by_cases c1 : x ≤ last
            · have d1 : decide (x ≤ last) = true := decide_eq_true c1
              have hno := okMv_no (n := n) (last := last) (m := (x, y, z)) (fun hh => by have := hh.1; dsimp only at this; omega)
              have HN := Lib.hid hno; clear hno
              go_wp2
              go_ret
              exact ⟨ret_eq (by rw [okA_move Hl.out HS.out HMS.out HST.out HN.out]; rfl), hbn.alloc (by omega) _⟩
            have d1 : decide (x ≤ last) = false := decide_eq_false c1
            by_cases c2 : y < x
            · have d2 : decide (y < x) = true := decide_eq_true c2
              have hno := okMv_no (n := n) (last := last) (m := (x, y, z)) (fun hh => by have := hh.2.1; dsimp only at this; omega)
              have HN := Lib.hid hno; clear hno
              go_wp2
              go_ret
              exact ⟨ret_eq (by rw [okA_move Hl.out HS.out HMS.out HST.out HN.out]; rfl), hbn.alloc (by omega) _⟩
            have d2 : decide (y < x) = false := decide_eq_false c2
            by_cases c3 : 1114111 < y
            · have d3 : decide (1114111 < y) = true := decide_eq_true c3
              have hno := okMv_no (n := n) (last := last) (m := (x, y, z)) (fun hh => by have := hh.2.2.1; dsimp only at this; omega)
              have HN := Lib.hid hno; clear hno
              go_wp2
              go_ret
              exact ⟨ret_eq (by rw [okA_move Hl.out HS.out HMS.out HST.out HN.out]; rfl), hbn.alloc (by omega) _⟩
            have d3 : decide (1114111 < y) = false := decide_eq_false c3
            by_cases c4 : z < 0
            · have d4 : decide (z < 0) = true := decide_eq_true c4
              have hno := okMv_no (n := n) (last := last) (m := (x, y, z)) (fun hh => by have := hh.2.2.2.1; dsimp only at this; omega)
              have HN := Lib.hid hno; clear hno
              go_wp2
              go_ret
              exact ⟨ret_eq (by rw [okA_move Hl.out HS.out HMS.out HST.out HN.out]; rfl), hbn.alloc (by omega) _⟩
            have d4 : decide (z < 0) = false := decide_eq_false c4
            by_cases c5 : (n : Int) ≤ z
            · have d5 : decide ((n : Int) ≤ z) = true := decide_eq_true c5
              have hno := okMv_no (n := n) (last := last) (m := (x, y, z)) (fun hh => by have := hh.2.2.2.2; dsimp only at this; omega)
              have HN := Lib.hid hno; clear hno
              go_wp2
              go_ret
              exact ⟨ret_eq (by rw [okA_move Hl.out HS.out HMS.out HST.out HN.out]; rfl), hbn.alloc (by omega) _⟩
            have d5 : decide ((n : Int) ≤ z) = false := decide_eq_false c5
            have hyes := okMv_yes (n := n) (last := last) (m := (x, y, z)) (by dsimp only; omega) (by dsimp only; omega) (by dsimp only; omega) (by dsimp only; omega) (by dsimp only; omega)
            have HY := Lib.hid hyes; clear hyes
            go_wp2
            go_roundw
            case rel => exact ⟨j + 1, y, by omega, by go_num, rfl, by show _ = _; rw [HST.out, HY.out]; rfl, hbq'.alloc (by omega) _⟩
            case measure => simp [intOf]; omega
          · have hx : okM n (-1) ms = true := by rw [← HO.out, List.drop_eq_nil_of_le (by rw [← HM.out]; omega)]; rfl
            have HX := Lib.hid hx; clear hx
            have hok : okS n s = true := by unfold okS; rw [← HMS.out, HX.out, ← HR.out, decide_eq_true (by omega)]; rfl
            have HK := Lib.hid hok; clear hok
            go_wp2
            go_roundw
            case rel => exact ⟨k + 1, by omega, by go_num, take_all HT.out HS.out HK.out, hbr.trans hbq⟩
            case measure => simp [intOf]; omega
      · have hx : okA l = true := okA_all Hl.out h500 (by have hh := HT.out; rwa [show k = n from by omega] at hh)
        have HX := Lib.hid hx; clear hx
        go_wp2
        go_ret
        exact ⟨ret_eq (by rw [HX.out]; rfl), hbw⟩
end Go.Proofs.YthikgdogfkjioaaGreatDoor
