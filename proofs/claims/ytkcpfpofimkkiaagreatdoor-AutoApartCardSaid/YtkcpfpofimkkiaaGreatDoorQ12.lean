/- small of the law; the document's sets of moves. · The contract of auto.Ok: whether an automaton is valid. · Plain: ranges apart that cover all points, in order, stand one behind the other. No program here. -/
import Derived.Test.YtkcpfpofimkkiaaGreatDoorQ3
import Derived.Test.YtkcpfpofimkkiaaGreatDoorQ6
import Derived.Test.YtkcpfpofimkkiaaGreatDoorQ11
namespace Go.Proofs.YtkcpfpofimkkiaaGreatDoor
open Go.RowKit BigFrame
set_option linter.unusedVariables false
set_option linter.unusedSimpArgs false
set_option maxRecDepth 100000

/-- How many moves states have. -/
def totM (l : List St) : Nat := (l.map fun s => s.2.length).sum
theorem totM_take {l : List St} {k : Nat} {s : St} (h : l[k]? = some s) : totM (l.take (k + 1)) = totM (l.take k) + s.2.length := by
  obtain ⟨hk, rfl⟩ := List.getElem?_eq_some_iff.1 h
  rw [List.take_succ_eq_append_getElem hk]; unfold totM; rw [List.map_append, List.sum_append]; simp
theorem totM_le (l : List St) (k : Nat) : totM (l.take k) ≤ totM l := by
  have h : totM (l.take k ++ l.drop k) = totM (l.take k) + totM (l.drop k) := by unfold totM; rw [List.map_append, List.sum_append]
  rw [List.take_append_drop] at h
  omega
theorem totM_big {l : List St} {m : Nat} (h : ∀ s ∈ l, s.2.length ≤ m) : totM l ≤ l.length * m := by
  induction l with
  | nil => simp [totM]
  | cons a r ih =>
    have h1 := ih fun s hs => h s (List.mem_cons_of_mem _ hs)
    have h2 := h a (List.mem_cons_self ..)
    unfold totM at h1 ⊢
    simp only [List.map_cons, List.sum_cons, List.length_cons]
    rw [Nat.succ_mul]; omega
theorem tot14 {a x : Nat} (h1 : x ≤ a * 140737488355328) (h2 : a ≤ 14) : x ≤ 1970324836974592 := by omega
def smallA (l : List St) : Bool := decide (l.length ≤ 14) && decide (totM l ≤ 60)
set_option maxHeartbeats 4000000 in
theorem small_any (A : Option Addr) (n c : Nat) (l : List St) (w : World) (h : (shL shState).rd w (Lo w.heap.size) l [.slice A n c]) (hl : l.length = n) (hn : n ≤ 140737488355328) (hm : ∀ s ∈ l, s.2.length ≤ 140737488355328) :
    Calls Tryz.prog 4 #[.agg #[.slice A n c]] w fun e w' => e = .returned (.bool (smallA l)) ∧ Below w.heap.size w w' := by
  have Hl := Lib.hid hl; have H := Lib.hid h; have HM := Lib.hid hm
  clear hl h hm
  have hb0 : Below w.heap.size w (w.alloc (.cells #[.slice A n c] 24)) := (Below.refl _ _).alloc (Nat.le_refl _) _
  have hc0 : (w.alloc (.cells #[.slice A n c] 24)).cell? ⟨w.heap.size, 0, none⟩ = some (.slice A n c) := by simp
  have hs0 : (w.alloc (.cells #[.slice A n c] 24)).heap.size = w.heap.size + 1 := by simp
  go_enter Tryz.func4, Tryz.ntmps4
  go_wp2_with fail
  generalize w.alloc (.cells #[.slice A n c] 24) = W0 at *
  have hW : w.heap.size < W0.heap.size := by omega
  have HB0 := Lib.hid hb0
  clear hb0 hs0
  go_loop [3, 4] (fun x i => ∃ (k : Nat) (t : Int), k ≤ n ∧ i = .int .i64 (k : Int) ∧ x = .int .i64 t ∧ Hid (n ≤ 14 → t = (totM (l.take k) : Int))) (fun _ i => n - (intOf i).toNat)
  case atStart => exact ⟨0, 0, Nat.zero_le _, rfl, rfl, Lib.hid fun _ => by simp [totM]⟩
  case round =>
    as_aux_lemma =>
      obtain ⟨k, t, hk, rfl, rfl, HT⟩ := hrel
      by_cases hlt : k < n
      · as_aux_lemma =>
          have d1 : decide ((k : Int) < (n : Int)) = true := decide_eq_true (by omega)
          have hkl : k < l.length := by rw [Hl.out]; exact hlt
          obtain ⟨b, off, rfl, hb, hst⟩ := states_at (Sh.below H.out HB0.out) (by omega)
          obtain ⟨g1, A', c', g2, g3, g4, g5⟩ := hst k _ (List.getElem?_eq_getElem hkl)
          have htk := totM_take (List.getElem?_eq_getElem hkl)
          have hle := totM_le l k
          have hsm := HM.out _ (List.getElem_mem hkl)
          generalize l[k] = s at *
          by_cases h14 : n ≤ 14
          · as_aux_lemma =>
              have e := HT.out h14
              have hbig : totM (l.take k) ≤ 1970324836974592 := tot14 (totM_big (l := l.take k) (m := 140737488355328) (fun s hs => HM.out s (List.mem_of_mem_take hs))) (by rw [List.length_take]; have := Hl.out; omega)
              have HK := Lib.hid htk
              subst e
              generalize totM (l.take k) = x at *
              unfold maxLen at g4
              clear hst g5 htk hle g3 h14
              go_wp2_with fail
              go_roundw
              case rel => exact ⟨k + 1, ((x + s.2.length : Nat) : Int), by omega, by go_num, by go_num, Lib.hid fun _ => by rw [HK.out]⟩
              case measure => simp [intOf]; omega
          · as_aux_lemma =>
              clear hst g5 htk hle g3 HT
              unfold maxLen at g4
              go_wp2_with fail
              go_roundw
              case rel => exact ⟨k + 1, _, by omega, by go_num, rfl, Lib.hid fun q => absurd q h14⟩
              case measure => simp [intOf]; omega
      · as_aux_lemma =>
          have d1 : decide ((k : Int) < (n : Int)) = false := decide_eq_false (by omega)
          have e : k = n := by omega
          by_cases h14 : n ≤ 14
          · have e2 := HT.out h14
            have e3 : l.take k = l := List.take_of_length_le (by rw [Hl.out]; omega)
            rw [e3] at e2
            subst e2
            have d2 : decide ((n : Int) ≤ 14) = true := decide_eq_true (by omega)
            by_cases h60 : totM l ≤ 60
            · have HS : Hid (smallA l = true) := Lib.hid (by unfold smallA; rw [Hl.out, decide_eq_true h14, decide_eq_true h60]; rfl)
              have d3 : decide ((totM l : Int) ≤ 60) = true := decide_eq_true (by omega)
              clear e3 HT h60
              go_wp2_with fail
              go_ret
              exact ⟨ret_eq (by rw [HS.out]; rfl), HB0.out⟩
            · have HS : Hid (smallA l = false) := Lib.hid (by unfold smallA; rw [decide_eq_false h60]; simp)
              have d3 : decide ((totM l : Int) ≤ 60) = false := decide_eq_false (by omega)
              clear e3 HT h60
              go_wp2_with fail
              go_ret
              exact ⟨ret_eq (by rw [HS.out]; rfl), HB0.out⟩
          · have d2 : decide ((n : Int) ≤ 14) = false := decide_eq_false (by omega)
            have HS : Hid (smallA l = false) := Lib.hid (by unfold smallA; rw [Hl.out, decide_eq_false h14]; rfl)
            clear HT
            go_wp2_with fail
            go_ret
            exact ⟨ret_eq (by rw [HS.out]; rfl), HB0.out⟩
end Go.Proofs.YtkcpfpofimkkiaaGreatDoor
namespace Go.Proofs.YtkcpfpofimkkiaaGreatDoor
open Go.RowKit
set_option linter.unusedVariables false
set_option linter.unusedSimpArgs false
set_option maxRecDepth 100000

set_option maxHeartbeats 4000000 in
theorem autoOk_any (A : Option Addr) (n c : Nat) (l : List St) (w : World) (h : (shL shState).rd w (Lo w.heap.size) l [.slice A n c]) (hl : l.length = n) (hn : n ≤ 140737488355328) :
    Calls Tryz.prog 12 #[.agg #[.slice A n c]] w fun e w' => e = .returned (.bool (okA l)) ∧ Below w.heap.size w w' := by
  have Hl := Lib.hid hl
  clear hl
  by_cases h500 : 500 < n
  · go_enter Tryz.func12, Tryz.ntmps12
    go_wp2
    go_ret
    exact ⟨ret_eq (by rw [okA_big (by rw [Hl.out]; exact h500)]; rfl), (Below.refl _ _).alloc (Nat.le_refl _) _⟩
  · have hb0 : Below w.heap.size w (w.alloc (.cells #[.slice A n c] 24)) := (Below.refl _ _).alloc (Nat.le_refl _) _
    have hW0 : (w.alloc (.cells #[.slice A n c] 24)).heap.size = w.heap.size + 1 := by simp
    have hc0 : (w.alloc (.cells #[.slice A n c] 24)).cell? ⟨w.heap.size, 0, none⟩ = some (.slice A n c) := by simp
    go_enter Tryz.func12, Tryz.ntmps12
    go_wp2
    generalize w.alloc (.cells #[.slice A n c] 24) = W0 at *
    go_loopw [15] (fun i wr => ∃ k : Nat, k ≤ n ∧ i = .int .i64 k ∧ Hid ((l.take k).all (okS n) = true) ∧ Below (w.heap.size + 1) W0 wr) (fun i _ => n - (intOf i).toNat)
    case atStart => exact ⟨0, Nat.zero_le _, rfl, rfl, Below.refl _ _⟩
    case round =>
      obtain ⟨k, hk, rfl, HT, hbr⟩ := hrel
      have hcr := (hbr.cell (p := ⟨w.heap.size, 0, none⟩) (by simp)).trans hc0
      have hbw := hb0.trans (hbr.mono (Nat.le_succ _))
      have hzr := hbr.size
      by_cases hlt : k < n
      · obtain ⟨s, hs⟩ : ∃ s, l[k]? = some s := ⟨_, List.getElem?_eq_getElem (by rw [Hl.out]; exact hlt)⟩
        obtain ⟨b, off, rfl, hb, hst⟩ := states_at (Sh.below h hbw) (by rw [Hl.out]; omega)
        obtain ⟨g1, A', c', g2, g3, g4, g5⟩ := hst k s hs
        have HS := Lib.hid hs; clear hs
        clear hst
        obtain ⟨ms, hms⟩ : ∃ ms, ms = s.2 := ⟨_, rfl⟩
        obtain ⟨m, hm⟩ : ∃ m, m = ms.length := ⟨_, rfl⟩
        rw [← hms, ← hm] at g2 g3 g5
        have HMS := Lib.hid hms; clear hms
        have HM := Lib.hid hm; clear hm
        unfold maxLen at g4
        obtain ⟨wo, rfl⟩ : ∃ wo : World, wo = wr := ⟨_, rfl⟩
        have hz2 : w.heap.size < wo.heap.size := by omega
        obtain ⟨r, hr⟩ : ∃ r, r = s.1 := ⟨_, rfl⟩
        rw [← hr] at g1
        have HR := Lib.hid hr; clear hr
        by_cases hrule : r < -1
        · go_wp2
          go_ret
          exact ⟨ret_eq (by rw [okA_rule Hl.out HS.out (by rw [← HR.out]; exact hrule)]; rfl), hbw.alloc (by omega) _⟩
        have hb1 : Below (w.heap.size + 1) wo (wo.alloc (.cells #[.int .i64 r, .slice A' m c'] 33)) := (Below.refl _ _).alloc (by omega) _
        have hW1 : (wo.alloc (.cells #[.int .i64 r, .slice A' m c'] 33)).heap.size = wo.heap.size + 1 := by simp
        go_wp2
        generalize wo.alloc (.cells #[.int .i64 r, .slice A' m c'] 33) = W1 at *
        go_loopw [5, 25] (fun la i wq => ∃ (j : Nat) (last : Int), j ≤ m ∧ i = .int .i64 j ∧ la = .int .i64 last ∧ Hid (okM n last (ms.drop j) = okM n (-1) ms) ∧ Below (wo.heap.size + 1) W1 wq) (fun _ i _ => m - (intOf i).toNat)
        case atStart => exact ⟨0, -1, Nat.zero_le _, rfl, rfl, rfl, Below.refl _ _⟩
        case round =>
          obtain ⟨j, last, hj, rfl, rfl, HO, hbq'⟩ := hrel
          have hbq := hb1.trans (hbq'.mono (by omega))
          have hcq := (hbq.cell (p := ⟨w.heap.size, 0, none⟩) (by simp)).trans hcr
          have hzq := hbq.size
          have hzq' := hbq'.size
          have hz3 : w.heap.size < wr.heap.size := by omega
          have hbn := hbw.trans (hbq.mono (Nat.le_succ _))
          clear g1 g2 hcr hc0
          by_cases hjm : j < m
          · obtain ⟨mv, hmv⟩ : ∃ mv, ms[j]? = some mv := ⟨_, List.getElem?_eq_getElem (by rw [← HM.out]; exact hjm)⟩
            obtain ⟨b2, off2, rfl, hb2, hmt⟩ := moves_at (Sh.below g5 (hbq.mono (Nat.le_succ _))) (by rw [← HM.out]; omega)
            obtain ⟨m1, m2, m3⟩ := hmt j mv hmv
            have hstep := okM_step (n := n) (last := last) hmv
            rw [HO.out] at hstep
            obtain ⟨x, y, z⟩ := mv
            clear hmt HO hmv
            dsimp only at m1 m2 m3 hstep
            have HST := Lib.hid hstep; clear hstep
            by_cases c1 : x ≤ last
            · have d1 : decide (x ≤ last) = true := decide_eq_true c1
              have hno := okMv_no (n := n) (last := last) (m := (x, y, z)) (fun hh => by have := hh.1; dsimp only at this; omega)
              have HN := Lib.hid hno; clear hno
              go_wp2
              go_ret
              exact ⟨ret_eq (by rw [okA_move Hl.out HS.out HMS.out HST.out HN.out]; rfl), hbn.alloc (by omega) _⟩
            have d1 : decide (x ≤ last) = false := decide_eq_false c1
            by_cases c2 : y < x
            · have d2 : decide (y < x) = true := decide_eq_true c2
              have hno := okMv_no (n := n) (last := last) (m := (x, y, z)) (fun hh => by have := hh.2.1; dsimp only at this; omega)
              have HN := Lib.hid hno; clear hno
              go_wp2
              go_ret
              exact ⟨ret_eq (by rw [okA_move Hl.out HS.out HMS.out HST.out HN.out]; rfl), hbn.alloc (by omega) _⟩
            have d2 : decide (y < x) = false := decide_eq_false c2
            by_cases c3 : 1114111 < y
            · have d3 : decide (1114111 < y) = true := decide_eq_true c3
              have hno := okMv_no (n := n) (last := last) (m := (x, y, z)) (fun hh => by have := hh.2.2.1; dsimp only at this; omega)
              have HN := Lib.hid hno; clear hno
              go_wp2
              go_ret
              exact ⟨ret_eq (by rw [okA_move Hl.out HS.out HMS.out HST.out HN.out]; rfl), hbn.alloc (by omega) _⟩
            have d3 : decide (1114111 < y) = false := decide_eq_false c3
            by_cases c4 : z < 0
            · have d4 : decide (z < 0) = true := decide_eq_true c4
              have hno := okMv_no (n := n) (last := last) (m := (x, y, z)) (fun hh => by have := hh.2.2.2.1; dsimp only at this; omega)
              have HN := Lib.hid hno; clear hno
              go_wp2
              go_ret
              exact ⟨ret_eq (by rw [okA_move Hl.out HS.out HMS.out HST.out HN.out]; rfl), hbn.alloc (by omega) _⟩
            have d4 : decide (z < 0) = false := decide_eq_false c4
            by_cases c5 : (n : Int) ≤ z
            · have d5 : decide ((n : Int) ≤ z) = true := decide_eq_true c5
              have hno := okMv_no (n := n) (last := last) (m := (x, y, z)) (fun hh => by have := hh.2.2.2.2; dsimp only at this; omega)
              have HN := Lib.hid hno; clear hno
              go_wp2
              go_ret
              exact ⟨ret_eq (by rw [okA_move Hl.out HS.out HMS.out HST.out HN.out]; rfl), hbn.alloc (by omega) _⟩
            have d5 : decide ((n : Int) ≤ z) = false := decide_eq_false c5
            have hyes := okMv_yes (n := n) (last := last) (m := (x, y, z)) (by dsimp only; omega) (by dsimp only; omega) (by dsimp only; omega) (by dsimp only; omega) (by dsimp only; omega)
            have HY := Lib.hid hyes; clear hyes
            go_wp2
            go_roundw
            case rel => exact ⟨j + 1, y, by omega, by go_num, rfl, by show _ = _; rw [HST.out, HY.out]; rfl, hbq'.alloc (by omega) _⟩
            case measure => simp [intOf]; omega
          · have hx : okM n (-1) ms = true := by rw [← HO.out, List.drop_eq_nil_of_le (by rw [← HM.out]; omega)]; rfl
            have HX := Lib.hid hx; clear hx
            have hok : okS n s = true := by unfold okS; rw [← HMS.out, HX.out, ← HR.out, decide_eq_true (by omega)]; rfl
            have HK := Lib.hid hok; clear hok
            go_wp2
            go_roundw
            case rel => exact ⟨k + 1, by omega, by go_num, take_all HT.out HS.out HK.out, hbr.trans hbq⟩
            case measure => simp [intOf]; omega
      · have hx : okA l = true := okA_all Hl.out h500 (by have hh := HT.out; rwa [show k = n from by omega] at hh)
        have HX := Lib.hid hx; clear hx
        go_wp2
        go_ret
        exact ⟨ret_eq (by rw [HX.out]; rfl), hbw⟩
end Go.Proofs.YtkcpfpofimkkiaaGreatDoor
namespace Go.Proofs.YtkcpfpofimkkiaaGreatDoor
set_option linter.unusedVariables false
set_option linter.unusedSimpArgs false

/-- Ranges in order, apart, that cover all from a to b and no more. -/
structure Cover (a b : Int) (L : List Rg) : Prop where
  ok : ∀ r ∈ L, a ≤ r.1 ∧ r.1 ≤ r.2 ∧ r.2 ≤ b
  asc : L.Pairwise fun r s => r.1 ≤ s.1
  dis : L.Pairwise fun r s => ∀ p, ¬ ((r.1 ≤ p ∧ p ≤ r.2) ∧ (s.1 ≤ p ∧ p ≤ s.2))
  all : ∀ p, a ≤ p → p ≤ b → ∃ r ∈ L, r.1 ≤ p ∧ p ≤ r.2
theorem Cover.tiles : ∀ {L : List Rg} {a b : Int}, a ≤ b + 1 → Cover a b L → Tiles a L b
  | [], a, b, hab, h => by
    have e : b = a - 1 := by
      apply Classical.byContradiction
      intro q
      obtain ⟨r, hr, _⟩ := h.all a (Int.le_refl _) (by omega)
      cases hr
    subst e
    exact Tiles.nil a
  | (lo, hi) :: L, a, b, hab, h => by
    obtain ⟨o1, o2, o3⟩ := h.ok (lo, hi) (List.mem_cons_self ..)
    simp only at o1 o2 o3
    have hasc := List.pairwise_cons.1 h.asc
    have hdis := List.pairwise_cons.1 h.dis
    have e : lo = a := by
      obtain ⟨r, hr, h1, h2⟩ := h.all a (Int.le_refl _) (by omega)
      rcases List.mem_cons.1 hr with rfl | q
      · simp only at h1; omega
      · have := hasc.1 r q
        simp only at this
        omega
    subst e
    have hbeh : ∀ r ∈ L, hi + 1 ≤ r.1 := fun r hr => by
      have h1 := hasc.1 r hr
      have h2 := hdis.1 r hr r.1
      have h3 := h.ok r (List.mem_cons_of_mem _ hr)
      simp only at h1 h2
      apply Classical.byContradiction
      intro q
      exact h2 ⟨⟨h1, by omega⟩, ⟨Int.le_refl _, h3.2.1⟩⟩
    refine Tiles.cons o2 (Cover.tiles (by omega) ⟨fun r hr => ⟨hbeh r hr, (h.ok r (List.mem_cons_of_mem _ hr)).2⟩, hasc.2, hdis.2, fun p h1 h2 => ?_⟩)
    obtain ⟨r, hr, k1, k2⟩ := h.all p (by omega) h2
    rcases List.mem_cons.1 hr with rfl | q
    · simp only at k2; omega
    · exact ⟨r, q, k1, k2⟩
/-- Points between two neighbours of a list in order that has all edges lie in the same sets. -/
structure Edged (e : List Int) (C : List (List Rg)) : Prop where
  asc : e.Pairwise fun x y => x < y
  lo : ∀ c ∈ C, ∀ r ∈ c, r.1 ∈ e
  hi : ∀ c ∈ C, ∀ r ∈ c, r.2 + 1 ∈ e
theorem between {e : List Int} (h : e.Pairwise fun x y => x < y) {k : Nat} (hk : k + 1 < e.length) {x : Int} (hx : x ∈ e) : ¬ (e[k] < x ∧ x < e[k + 1]) := by
  obtain ⟨i, hi, rfl⟩ := List.getElem_of_mem hx
  have hp := List.pairwise_iff_getElem.1 h
  rintro ⟨h1, h2⟩
  rcases Nat.lt_or_ge k i with q | q
  · rcases Nat.lt_or_ge (k + 1) i with r | r
    · have := hp _ _ hk hi r; omega
    · have : i = k + 1 := by omega
      subst this; omega
  · rcases Nat.lt_or_ge i k with r | r
    · have := hp _ _ hi (by omega) r; omega
    · have : i = k := by omega
      subst this; omega
theorem Edged.same {e : List Int} {C : List (List Rg)} (h : Edged e C) {k : Nat} (hk : k + 1 < e.length) {p : Int} (h1 : e[k] ≤ p) (h2 : p < e[k + 1]) {c : List Rg} (hc : c ∈ C) : memR c p = memR c e[k] := by
  unfold memR
  refine Bool.eq_iff_iff.2 ?_
  simp only [List.any_eq_true, Bool.and_eq_true, decide_eq_true_eq]
  constructor
  · rintro ⟨r, hr, q1, q2⟩
    have b1 := between h.asc hk (h.lo c hc r hr)
    exact ⟨r, hr, by omega, by omega⟩
  · rintro ⟨r, hr, q1, q2⟩
    have b2 := between h.asc hk (h.hi c hc r hr)
    exact ⟨r, hr, by omega, by omega⟩
theorem Edged.cls {e : List Int} {C : List (List Rg)} (h : Edged e C) {k : Nat} (hk : k + 1 < e.length) {p : Int} (h1 : e[k] ≤ p) (h2 : p < e[k + 1]) : clsOf C p = clsOf C e[k] := by
  unfold clsOf
  have : ∀ D : List (List Rg), (∀ c ∈ D, c ∈ C) → (D.findIdx fun c => memR c p) = D.findIdx fun c => memR c e[k] := by
    intro D
    induction D with
    | nil => intro _; rfl
    | cons c D ih =>
      intro hD
      rw [List.findIdx_cons, List.findIdx_cons, h.same hk h1 h2 (hD c (List.mem_cons_self ..)), ih fun x hx => hD x (List.mem_cons_of_mem _ hx)]
  exact this C fun _ hc => hc
/-- The stretches between neighbours. -/
def stretches : List Int → List (Int × Int)
  | [] => []
  | [_] => []
  | x :: y :: r => (x, y - 1) :: stretches (y :: r)
theorem stretches_tiles : ∀ {e : List Int} {x : Int}, (x :: e).Pairwise (fun x y => x < y) → Tiles x (stretches (x :: e)) (((x :: e).getLast (by simp)) - 1)
  | [], x, _ => Tiles.nil x
  | y :: r, x, h => by
    have h1 := List.pairwise_cons.1 h
    have h2 := h1.1 y (List.mem_cons_self ..)
    have h3 := stretches_tiles h1.2
    rw [List.getLast_cons (by simp)]
    refine Tiles.cons (by omega) ?_
    rw [show y - 1 + 1 = y by omega]
    exact h3
theorem stretches_at : ∀ {e : List Int} {pc : Int × Int}, pc ∈ stretches e → ∃ k, ∃ hk : k + 1 < e.length, pc = (e[k], e[k + 1] - 1)
  | [], _, h => by cases h
  | [_], _, h => by cases h
  | x :: y :: r, pc, h => by
    rcases List.mem_cons.1 h with rfl | q
    · exact ⟨0, by simp, rfl⟩
    · obtain ⟨k, hk, e⟩ := stretches_at q
      exact ⟨k + 1, by simpa using hk, by simpa using e⟩
end Go.Proofs.YtkcpfpofimkkiaaGreatDoor
