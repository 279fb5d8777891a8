/- Automata in memory; the contracts of ref1.AutoOk and auto.Ok. · Arguments opened: a slice of integers that came in. · Automata that came in, with their weights; and what 'laid' gives for the decimal text of an int. -/
import Derived.Test.YtkcpfpofimkkiaaGreatDoorProg
import Derived.Test.YtkcpfpofimkkiaaGreatDoorQ2
import Derived.WalkSpells
import Derived.WalkLawsBesides
import Derived.Handy
import Derived.Deep.QuietTactic
import Derived.BigQuiet
import Derived.Test.YtkcpfpofimkkiaaGreatDoorQ1
import Derived.ProofKit
import Derived.OpenShut
import Derived.Test.YtkcpfpofimkkiaaGreatDoorRows
import Derived.LaidMore
import Derived.Lib.LaidTab
namespace Go.Proofs.YtkcpfpofimkkiaaGreatDoor
open Go.RowKit
set_option linter.unusedVariables false
set_option linter.unusedSimpArgs false
set_option maxRecDepth 100000

abbrev Mv := Int × Int × Int
abbrev St := Int × List Mv
def shMove : Sh Mv := shP shInt (shP shInt shInt)
def shState : Sh St := shP shInt (shL shMove)

theorem move_cells {w : World} {F : Nat → Prop} {m : Mv} {d : List Value} (h : shMove.rd w F m d) : d = [.int .i64 m.1, .int .i64 m.2.1, .int .i64 m.2.2] := by
  obtain ⟨c1, d1, rfl, ⟨rfl, _⟩, c2, d2, rfl, ⟨rfl, _⟩, ⟨rfl, _⟩⟩ := h
  rfl
theorem moves_at {w : World} {F : Nat → Prop} {l : List Mv} {A : Option Addr} {n c : Nat} (h : (shL shMove).rd w F l [.slice A n c]) (hl : 0 < l.length) :
    ∃ b off, A = some ⟨b, off, none⟩ ∧ F b ∧ ∀ (k : Nat) (m : Mv), l[k]? = some m → w.cell? ⟨b, off + k * 3, none⟩ = some (.int .i64 m.1) ∧ w.cell? ⟨b, off + k * 3 + 1, none⟩ = some (.int .i64 m.2.1) ∧ w.cell? ⟨b, off + k * 3 + 2, none⟩ = some (.int .i64 m.2.2) := by
  obtain ⟨b, off, e, hb, hc⟩ := shL_at h (by decide) hl
  refine ⟨b, off, e, hb, fun k m hm => ?_⟩
  obtain ⟨d, hd, hd'⟩ := hc k m hm
  rw [move_cells hd] at hd'
  exact ⟨hd' 0 _ rfl, hd' 1 _ rfl, hd' 2 _ rfl⟩
theorem states_at {w : World} {F : Nat → Prop} {l : List St} {A : Option Addr} {n c : Nat} (h : (shL shState).rd w F l [.slice A n c]) (hl : 0 < l.length) :
    ∃ b off, A = some ⟨b, off, none⟩ ∧ F b ∧ ∀ (k : Nat) (s : St), l[k]? = some s → w.cell? ⟨b, off + k * 2, none⟩ = some (.int .i64 s.1) ∧ ∃ A' c', w.cell? ⟨b, off + k * 2 + 1, none⟩ = some (.slice A' s.2.length c') ∧ s.2.length ≤ c' ∧ c' ≤ maxLen ∧ (shL shMove).rd w F s.2 [.slice A' s.2.length c'] := by
  obtain ⟨b, off, e, hb, hc⟩ := shL_at h (by decide) hl
  refine ⟨b, off, e, hb, fun k s hs => ?_⟩
  obtain ⟨d, ⟨c1, d1, rfl, ⟨rfl, _⟩, h2⟩, hd'⟩ := hc k s hs
  obtain ⟨A', c', rfl, h3, h4⟩ := shL_form h2
  exact ⟨hd' 0 _ rfl, A', c', hd' 1 _ rfl, h3, h4, h2⟩

/-! ### valid -/
def okM (n : Nat) : Int → List Mv → Bool
  | _, [] => true
  | last, m :: r => (decide (last < m.1) && (decide (m.1 ≤ m.2.1) && (decide (m.2.1 ≤ 1114111) && (decide (0 ≤ m.2.2) && decide (m.2.2 < n))))) && okM n m.2.1 r
def okS (n : Nat) (s : St) : Bool := decide (-1 ≤ s.1) && okM n (-1) s.2
def okA (l : List St) : Bool := decide (l.length ≤ 500) && l.all (okS l.length)

theorem okA_big {l : List St} (h : 500 < l.length) : okA l = false := by
  unfold okA; rw [decide_eq_false (by omega)]; rfl
theorem okA_all {l : List St} {n : Nat} (hl : l.length = n) (h : ¬ 500 < n) (ha : (l.take n).all (okS n) = true) : okA l = true := by
  unfold okA
  rw [hl, decide_eq_true (by omega)]
  rw [List.take_of_length_le (by omega)] at ha
  rw [ha]; rfl
theorem okA_bad {l : List St} {n k : Nat} {s : St} (hl : l.length = n) (hs : l[k]? = some s) (h : okS n s = false) : okA l = false := by
  unfold okA
  rw [hl]
  have : l.all (okS n) = false := by
    rw [List.all_eq_false]
    exact ⟨s, List.mem_of_getElem? hs, by rw [h]; simp⟩
  rw [this, Bool.and_false]
theorem take_all {l : List St} {n k : Nat} {s : St} (ha : (l.take k).all (okS n) = true) (hs : l[k]? = some s) (h : okS n s = true) : (l.take (k + 1)).all (okS n) = true := by
  obtain ⟨hk, rfl⟩ := List.getElem?_eq_some_iff.1 hs
  rw [List.take_succ_eq_append_getElem hk, List.all_append, ha]; simp [h]
def okMv (n : Nat) (last : Int) (m : Mv) : Bool := decide (last < m.1) && (decide (m.1 ≤ m.2.1) && (decide (m.2.1 ≤ 1114111) && (decide (0 ≤ m.2.2) && decide (m.2.2 < n))))
theorem okM_step {n : Nat} {last : Int} {ms : List Mv} {j : Nat} {m : Mv} (hm : ms[j]? = some m) : okM n last (ms.drop j) = (okMv n last m && okM n m.2.1 (ms.drop (j + 1))) := by
  obtain ⟨hj, rfl⟩ := List.getElem?_eq_some_iff.1 hm
  rw [List.drop_eq_getElem_cons hj]; rfl
theorem okMv_yes {n : Nat} {last : Int} {m : Mv} (h1 : last < m.1) (h2 : m.1 ≤ m.2.1) (h3 : m.2.1 ≤ 1114111) (h4 : 0 ≤ m.2.2) (h5 : m.2.2 < n) : okMv n last m = true := by
  simp [okMv, h1, h2, h3, h4, h5]
theorem okMv_no {n : Nat} {last : Int} {m : Mv} (h : ¬ (last < m.1 ∧ m.1 ≤ m.2.1 ∧ m.2.1 ≤ 1114111 ∧ 0 ≤ m.2.2 ∧ m.2.2 < n)) : okMv n last m = false := by
  cases hb : okMv n last m
  · rfl
  · exfalso; apply h
    simpa [okMv] using hb
theorem okA_move {l : List St} {n k : Nat} {s : St} {ms : List Mv} {last : Int} {m : Mv} {rest : Bool} (hl : l.length = n) (hs : l[k]? = some s) (hms : ms = s.2)
    (hst : okM n (-1) ms = (okMv n last m && rest)) (hm : okMv n last m = false) : okA l = false := by
  refine okA_bad hl hs ?_
  unfold okS
  rw [← hms, hst, hm]; simp
theorem okA_rule {l : List St} {n k : Nat} {s : St} (hl : l.length = n) (hs : l[k]? = some s) (h : s.1 < -1) : okA l = false := by
  refine okA_bad hl hs ?_
  unfold okS
  rw [decide_eq_false (by omega)]; rfl

set_option maxHeartbeats 4000000 in
theorem r1AutoOk_any (A : Option Addr) (n c : Nat) (l : List St) (w : World) (h : (shL shState).rd w (Lo w.heap.size) l [.slice A n c]) (hl : l.length = n) (hn : n ≤ 140737488355328) :
    Calls Tryz.prog 5 #[.agg #[.slice A n c]] w fun e w' => e = .returned (.bool (okA l)) ∧ Below w.heap.size w w' := by
  have Hl := Lib.hid hl
  clear hl
  by_cases h500 : 500 < n
  · go_enter Tryz.func5, Tryz.ntmps5
    go_wp2
    go_ret
    exact ⟨ret_eq (by rw [okA_big (by rw [Hl.out]; exact h500)]; rfl), (Below.refl _ _).alloc (Nat.le_refl _) _⟩
  · have hb0 : Below w.heap.size w (w.alloc (.cells #[.slice A n c] 24)) := (Below.refl _ _).alloc (Nat.le_refl _) _
    have hW0 : (w.alloc (.cells #[.slice A n c] 24)).heap.size = w.heap.size + 1 := by simp
    have hc0 : (w.alloc (.cells #[.slice A n c] 24)).cell? ⟨w.heap.size, 0, none⟩ = some (.slice A n c) := by simp
    go_enter Tryz.func5, Tryz.ntmps5
    go_wp2
    generalize w.alloc (.cells #[.slice A n c] 24) = W0 at *
    go_loopw [3] (fun i wr => ∃ k : Nat, k ≤ n ∧ i = .int .i64 k ∧ Hid ((l.take k).all (okS n) = true) ∧ Below (w.heap.size + 1) W0 wr) (fun i _ => n - (intOf i).toNat)
    case atStart => exact ⟨0, Nat.zero_le _, rfl, rfl, Below.refl _ _⟩
    case round =>
      obtain ⟨k, hk, rfl, HT, hbr⟩ := hrel
      have hcr := (hbr.cell (p := ⟨w.heap.size, 0, none⟩) (by simp)).trans hc0
      have hbw := hb0.trans (hbr.mono (Nat.le_succ _))
      have hzr := hbr.size
      by_cases hlt : k < n
      · obtain ⟨s, hs⟩ : ∃ s, l[k]? = some s := ⟨_, List.getElem?_eq_getElem (by rw [Hl.out]; exact hlt)⟩
        obtain ⟨b, off, rfl, hb, hst⟩ := states_at (Sh.below h hbw) (by rw [Hl.out]; omega)
        obtain ⟨g1, A', c', g2, g3, g4, g5⟩ := hst k s hs
        have HS := Lib.hid hs; clear hs
        clear hst
        obtain ⟨ms, hms⟩ : ∃ ms, ms = s.2 := ⟨_, rfl⟩
        obtain ⟨m, hm⟩ : ∃ m, m = ms.length := ⟨_, rfl⟩
        rw [← hms, ← hm] at g2 g3 g5
        have HMS := Lib.hid hms; clear hms
        have HM := Lib.hid hm; clear hm
        unfold maxLen at g4
        go_wp2
        obtain ⟨wo, rfl⟩ : ∃ wo : World, wo = wr := ⟨_, rfl⟩
        go_loopw [4, 5] (fun la i wq => ∃ (j : Nat) (last : Int), j ≤ m ∧ i = .int .i64 j ∧ la = .int .i64 last ∧ Hid (okM n last (ms.drop j) = okM n (-1) ms) ∧ Below (w.heap.size + 1) wo wq) (fun _ i _ => m - (intOf i).toNat)
        case atStart => exact ⟨0, -1, Nat.zero_le _, rfl, rfl, rfl, Below.refl _ _⟩
        case round =>
          obtain ⟨j, last, hj, rfl, rfl, HO, hbq⟩ := hrel
          have hcq := (hbq.cell (p := ⟨w.heap.size, 0, none⟩) (by simp)).trans hcr
          have q1 := (hbq.cell (p := ⟨b, off + k * 2, none⟩) (Nat.lt_succ_of_lt hb)).trans g1
          have q2 := (hbq.cell (p := ⟨b, off + k * 2 + 1, none⟩) (Nat.lt_succ_of_lt hb)).trans g2
          have hzq := hbq.size
          have hz3 : w.heap.size < wr.heap.size := by omega
          have hbn := hbw.trans (hbq.mono (Nat.le_succ _))
          clear g1 g2 hcr hc0
          by_cases hjm : j < m
          · obtain ⟨mv, hmv⟩ : ∃ mv, ms[j]? = some mv := ⟨_, List.getElem?_eq_getElem (by rw [← HM.out]; exact hjm)⟩
            obtain ⟨b2, off2, rfl, hb2, hmt⟩ := moves_at (Sh.below g5 (hbq.mono (Nat.le_succ _))) (by rw [← HM.out]; omega)
            obtain ⟨m1, m2, m3⟩ := hmt j mv hmv
            have hstep := okM_step (n := n) (last := last) hmv
            rw [HO.out] at hstep
            obtain ⟨x, y, z⟩ := mv
            clear hmt HO hmv
            dsimp only at m1 m2 m3 hstep
            have HST := Lib.hid hstep; clear hstep
            by_cases c1 : x ≤ last
            · have d1 : decide (x ≤ last) = true := decide_eq_true c1
              have hno := okMv_no (n := n) (last := last) (m := (x, y, z)) (fun hh => by have := hh.1; dsimp only at this; omega)
              have HN := Lib.hid hno; clear hno
              go_wp2
              go_ret
              exact ⟨ret_eq (by rw [okA_move Hl.out HS.out HMS.out HST.out HN.out]; rfl), hbn.alloc (by omega) _⟩
            have d1 : decide (x ≤ last) = false := decide_eq_false c1
            by_cases c2 : y < x
            · have d2 : decide (y < x) = true := decide_eq_true c2
              have hno := okMv_no (n := n) (last := last) (m := (x, y, z)) (fun hh => by have := hh.2.1; dsimp only at this; omega)
              have HN := Lib.hid hno; clear hno
              go_wp2
              go_ret
              exact ⟨ret_eq (by rw [okA_move Hl.out HS.out HMS.out HST.out HN.out]; rfl), hbn.alloc (by omega) _⟩
            have d2 : decide (y < x) = false := decide_eq_false c2
            by_cases c3 : 1114111 < y
            · have d3 : decide (1114111 < y) = true := decide_eq_true c3
              have hno := okMv_no (n := n) (last := last) (m := (x, y, z)) (fun hh => by have := hh.2.2.1; dsimp only at this; omega)
              have HN := Lib.hid hno; clear hno
              go_wp2
              go_ret
              exact ⟨ret_eq (by rw [okA_move Hl.out HS.out HMS.out HST.out HN.out]; rfl), hbn.alloc (by omega) _⟩
            have d3 : decide (1114111 < y) = false := decide_eq_false c3
            by_cases c4 : z < 0
            · have d4 : decide (z < 0) = true := decide_eq_true c4
              have hno := okMv_no (n := n) (last := last) (m := (x, y, z)) (fun hh => by have := hh.2.2.2.1; dsimp only at this; omega)
              have HN := Lib.hid hno; clear hno
              go_wp2
              go_ret
              exact ⟨ret_eq (by rw [okA_move Hl.out HS.out HMS.out HST.out HN.out]; rfl), hbn.alloc (by omega) _⟩
            have d4 : decide (z < 0) = false := decide_eq_false c4
            by_cases c5 : (n : Int) ≤ z
            · have d5 : decide ((n : Int) ≤ z) = true := decide_eq_true c5
              have hno := okMv_no (n := n) (last := last) (m := (x, y, z)) (fun hh => by have := hh.2.2.2.2; dsimp only at this; omega)
              have HN := Lib.hid hno; clear hno
              go_wp2
              go_ret
              exact ⟨ret_eq (by rw [okA_move Hl.out HS.out HMS.out HST.out HN.out]; rfl), hbn.alloc (by omega) _⟩
            have d5 : decide ((n : Int) ≤ z) = false := decide_eq_false c5
            have hyes := okMv_yes (n := n) (last := last) (m := (x, y, z)) (by dsimp only; omega) (by dsimp only; omega) (by dsimp only; omega) (by dsimp only; omega) (by dsimp only; omega)
            have HY := Lib.hid hyes; clear hyes
            go_wp2
            go_roundw
            case rel => exact ⟨j + 1, y, by omega, by go_num, rfl, by show _ = _; rw [HST.out, HY.out]; rfl, hbq.alloc (by omega) _⟩
            case measure => simp [intOf]; omega
          · have hx : okM n (-1) ms = true := by rw [← HO.out, List.drop_eq_nil_of_le (by rw [← HM.out]; omega)]; rfl
            have HX := Lib.hid hx; clear hx
            by_cases hr : s.1 < -1
            · go_wp2
              go_ret
              exact ⟨ret_eq (by rw [okA_rule Hl.out HS.out hr]; rfl), hbn⟩
            · have hok : okS n s = true := by unfold okS; rw [← HMS.out, HX.out, decide_eq_true (by omega)]; rfl
              have HK := Lib.hid hok; clear hok
              go_wp2
              go_roundw
              case rel => exact ⟨k + 1, by omega, by go_num, take_all HT.out HS.out HK.out, hbr.trans hbq⟩
              case measure => simp [intOf]; omega
      · have hx : okA l = true := okA_all Hl.out h500 (by have hh := HT.out; rwa [show k = n from by omega] at hh)
        have HX := Lib.hid hx; clear hx
        go_wp2
        go_ret
        exact ⟨ret_eq (by rw [HX.out]; rfl), hbw⟩
end Go.Proofs.YtkcpfpofimkkiaaGreatDoor
namespace Go.Proofs.YtkcpfpofimkkiaaGreatDoor
open Go.ChangeShapes Go.WideShapes Go.ChangeAt Go.RowKit
set_option linter.unusedVariables false
set_option linter.unusedSimpArgs false
set_option maxRecDepth 100000

/-- The value is a slice of integers in memory below the heap's end. -/
def IsInts (W : World) (v : Value) : Prop := ∃ A n c l, v = .slice A n c ∧ List.length l = n ∧ n ≤ c ∧ c ≤ maxLen ∧ RdI W W.heap.size A l ∧ ∀ x ∈ l, (Lit.int .i64 x).wf = true

theorem take_nth (zs : List Int) (n j : Nat) (h : j < n) : nth (zs.take n) j = zs.getD j 0 := by
  unfold nth
  simp [List.getD, h]

theorem open_IsInts {H : Type} {enc : TypeId × Value → H} {W : World} {base : Nat} {r : Reach} {b0 : Nat} {v : Value} {d : DataW H} {p : List MemPlace} {held : Bool}
    (hv : Value.okWide Tryz.prog W r b0 37 v) (h : DataW.Trod enc Tryz.prog W base (fun _ => true) held 37 v d p) : IsInts W v := by
  obtain ⟨a, len, cap, rfl⟩ := okWide_slice Tryz.underlying37 hv
  obtain ⟨fuel, hf⟩ := h
  rcases open_ints Tryz.underlying37 Tryz.underlying3 (by kernel_rfl) hf with ⟨hcs, _⟩ | ⟨x, l, c, zs, hcs, _, hl, hm, hz, _, hcell, hwz⟩
  · simp [Value.cells] at hcs
    obtain ⟨rfl, rfl, rfl⟩ := hcs
    exact ⟨none, 0, 0, [], rfl, rfl, Nat.le_refl _, Nat.zero_le _, Rd.nil _ _ _, fun x hx => by cases hx⟩
  · simp [Value.cells] at hcs
    obtain ⟨rfl, rfl, rfl⟩ := hcs
    have hz : zs.length = cap := by simpa using hz
    refine ⟨some x, len, cap, zs.take len, rfl, by rw [List.length_take]; omega, hl, hm, fun hne => ?_, fun n hn => hwz n (List.mem_of_mem_take hn)⟩
    have hlen : 0 < len := by
      rcases Nat.eq_zero_or_pos len with h0 | h0
      · subst h0; simp at hne
      · exact h0
    obtain ⟨b, off, spot⟩ := x
    have hc0 := hcell 0 (by omega)
    have hspot : spot = none := by simpa [Addr.add] using World.cell?_spot hc0
    subst hspot
    refine ⟨b, off, rfl, World.block_lt_of_cell? W _ hc0, fun j u hu => ?_⟩
    rw [List.getElem?_map] at hu
    have hj : j < len := by
      rcases Nat.lt_or_ge j len with h0 | h0
      · exact h0
      · rw [List.getElem?_eq_none (by rw [List.length_take]; omega)] at hu; cases hu
    rw [nth_some (by rw [List.length_take]; omega), take_nth zs len j hj] at hu
    simp at hu
    subst hu
    have := hcell j (by omega)
    have hadd : (⟨b, off, none⟩ : Addr).add j = ⟨b, off + j, none⟩ := by unfold Addr.add; split <;> simp_all
    rw [hadd] at this
    simpa using this
end Go.Proofs.YtkcpfpofimkkiaaGreatDoor
namespace Go.Proofs.YtkcpfpofimkkiaaGreatDoor
open Go.ChangeShapes Go.WideShapes Go.RowKit
set_option linter.unusedVariables false
set_option linter.unusedSimpArgs false
set_option maxRecDepth 100000

theorem opens_Move : Opens Tryz.prog 35 shMove :=
  opens_struct Tryz.underlying35 (by kernel_rfl) (opF_cons rfl (opens_int Tryz.underlying3 (by kernel_rfl)) (opF_cons rfl (opens_int Tryz.underlying3 (by kernel_rfl)) (opF_one rfl (opens_int Tryz.underlying3 (by kernel_rfl)))))
def shStateW : Sh St := shP shInt (shZ (shL shMove) fun l => l.length * 24 ≤ reachBytes)
theorem opensW_Moves : OpensW Tryz.prog 31 (shZ (shL shMove) fun l => l.length * 24 ≤ reachBytes) := opensW_slice Tryz.underlying31 (by kernel_rfl) (by decide) (by kernel_rfl) (Opens.w opens_Move)
theorem opensW_State : OpensW Tryz.prog 33 shStateW :=
  opensW_struct Tryz.underlying33 (by kernel_rfl) (opFW_cons rfl (Opens.w (opens_int Tryz.underlying3 (by kernel_rfl))) (opFW_one rfl opensW_Moves))
theorem opensW_States : OpensW Tryz.prog 22 (shZ (shL shStateW) fun l => l.length * 32 ≤ reachBytes) := opensW_slice Tryz.underlying22 (by kernel_rfl) (by decide) (by kernel_rfl) opensW_State
theorem opensW_Auto : OpensW Tryz.prog 24 (shZ (shL shStateW) fun l => l.length * 32 ≤ reachBytes) :=
  opensW_struct Tryz.underlying24 (by kernel_rfl) (opFW_one rfl opensW_States)

/-- An automaton that came in. -/
def IsAuto (W : World) (v : Value) : Prop := ∃ A c l, v = .agg #[.slice A (List.length l) c] ∧ l.length ≤ c ∧ c ≤ maxLen ∧ (shL shState).rd W (Lo W.heap.size) l [.slice A l.length c] ∧ l.length * 32 ≤ reachBytes ∧ ∀ s ∈ l, s.2.length * 24 ≤ reachBytes
theorem open_IsAuto {H : Type} {enc : TypeId × Value → H} {W : World} {base : Nat} {r : Reach} {b0 : Nat} {v : Value} {d : DataW H} {p : List MemPlace} {held : Bool}
    (hv : Value.okWide Tryz.prog W r b0 24 v) (h : DataW.Trod enc Tryz.prog W base (fun _ => true) held 24 v d p) (hw : ∀ n ∈ d.weights Tryz.prog 24, n ≤ reachBytes) : IsAuto W v := by
  obtain ⟨cs, rfl, hsz⟩ := Go.WideShapes.okWide_struct Tryz.underlying24 hv
  obtain ⟨l, ⟨A, c, css, e, h1, h2, h3, h4, h5⟩, hz⟩ := isIn_ofW opensW_Auto h hw
  have e' : cs = #[.slice A l.length c] := by
    apply Array.ext'
    simpa [Value.cells] using e
  subst e'
  refine ⟨A, c, l, rfl, h1, h2, ⟨A, c, css, rfl, h1, h2, h3, fun i a d ha hd => ?_, h5⟩, hz, fun s hs => ?_⟩
  · obtain ⟨c1, d1, e1, x, y, z⟩ := h4 i a d ha hd
    exact ⟨c1, d1, e1, x, y⟩
  · obtain ⟨i, hi, rfl⟩ := List.getElem_of_mem hs
    have hic : i < css.length := by rw [h3]; exact hi
    obtain ⟨c1, d1, e1, x, y, z⟩ := h4 i _ _ (List.getElem?_eq_getElem hi) (List.getElem?_eq_getElem hic)
    exact z

theorem lt_of_cell {w : World} {b o : Nat} {v : Value} (h : w.cell? ⟨b, o, none⟩ = some v) : b < w.heap.size := by
  rcases Nat.lt_or_ge b w.heap.size with q | q
  · exact q
  · simp [World.cell?, Array.getElem?_eq_none q] at h
theorem pow_met {W : World} (h : laidMetH Tryz.prog Rows.autoApartRow.laid W) : Pow W ∧ 0 < W.heap.size := by
  have h' : laidMet Tryz.prog [("math/bits.deBruijn32tab", Rows.laid_math_bits_deBruijn32tab), ("math/bits.deBruijn64tab", Rows.laid_math_bits_deBruijn64tab), ("internal/strconv.uint64pow10", Rows.laid_internal_strconv_uint64pow10)] W := h
  obtain ⟨ps, ⟨_, _, _, _, _, _, _, _, _, _, ⟨_, _, _, _, _, _, _, _, _, _, ⟨g', t', cs, fuel, p, q, hg', ht', hvar, hd, _, _⟩, _⟩, _⟩, _⟩ := h'
  have hg : Tryz.prog.globalNamed "internal/strconv.uint64pow10" = some 0 := by kernel_rfl
  obtain rfl := Option.some.inj (hg.symm.trans hg')
  have hty : (Tryz.prog.globals[0]?).map (·.type) = some 163 := by kernel_rfl
  obtain rfl := Option.some.inj (hty.symm.trans ht')
  have e : (Rows.laid_internal_strconv_uint64pow10 : DataW Unit) = Lib.tabData .u64 Lib.pow10Tab := by kernel_rfl
  rw [e] at hd
  have hp : Pow W := by
    unfold Pow Lib.TabIs
    rw [hvar, ← Lib.cells_of_tab Tryz.underlying163 Tryz.underlying77 (by kernel_rfl) (by kernel_rfl) hd]
  exact ⟨hp, lt_of_cell (hp.cell hg 0 (by decide))⟩
end Go.Proofs.YtkcpfpofimkkiaaGreatDoor
