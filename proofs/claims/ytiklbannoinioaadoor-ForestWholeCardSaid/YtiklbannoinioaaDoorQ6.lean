/- The program's forest: has, fits, stands, of, leaf and span. · A region that draws its order: operations ahead that touch no memory and that nobody may wait for, then still ones, then a tail in one order (a call that makes memory, an address, a store). · A region that draws its order, by what holds after any set of its operations. -/
import Derived.Test.YtiklbannoinioaaDoorQ5
import Derived.Test.YtiklbannoinioaaDoorQ4
import Derived.Deep.QuietTactic
import Derived.BigQuiet
import Derived.StillTailTactics
import Derived.Orders
import Derived.Tactics
import Derived.Tactics2
namespace Go.Proofs.YtiklbannoinioaaDoor
open Go.RowKit BigFrame Go.Maps
set_option linter.unusedVariables false
set_option linter.unusedSimpArgs false
set_option maxRecDepth 100000

theorem lt_cell {w : World} {b o : Nat} {v : Value} (h : w.cell? ⟨b, o, none⟩ = some v) : b < w.heap.size := by
  unfold World.cell? at h
  rcases Nat.lt_or_ge b w.heap.size with q | q
  · exact q
  · rw [Array.getElem?_eq_none q] at h; simp at h

theorem bel_dN {B : Nat} {a w : World} (h : Below B a w) (n : Nat) : Below B a (w.drewN n) := ⟨h.os, h.tape, h.output, h.size, h.block⟩

theorem has_any (s mk : Nat) (l : List K3) (x : K3) (hx : inK x) (w : World) (z : w.cell? ⟨s, 1, none⟩ = some (.map (some mk))) (h : ItM w mk l) :
    Calls Tryd.prog 34 #[.pointer (some ⟨s, 0, none⟩), kV x] w fun e w' => e = .returned (.bool (decide (x ∈ l))) ∧ Below w.heap.size w w' := by
  have hb0 : Below w.heap.size w (w.alloc (.cells #[.int .i64 x.1, .int .i64 x.2.1, .int .i64 x.2.2] 92)) := (Below.refl _ _).alloc (Nat.le_refl _) _
  have z1 := (hb0.cell (p := ⟨s, 1, none⟩) (lt_cell z)).trans z
  obtain ⟨v, hl0⟩ : ∃ v, ∀ q, (Instr.lookup 69 (.map (some mk)) (kV x) true).run Tryd.prog ((w.alloc (.cells #[.int .i64 x.1, .int .i64 x.2.1, .int .i64 x.2.2] 92)).drewN q) = .ok (.tuple #[v, .bool (decide (x ∈ l))]) ((w.alloc (.cells #[.int .i64 x.1, .int .i64 x.2.1, .int .i64 x.2.2] 92)).drewN q) := by
    obtain ⟨n, f, h1, h2⟩ := h
    refine ⟨(f x).getD zeroV, fun q => ?_⟩
    have h3 : KMap 92 zeroV ((w.alloc (.cells #[.int .i64 x.1, .int .i64 x.2.1, .int .i64 x.2.2] 92)).drewN q) mk n f := h1.same (hb0.block mk h1.lt)
    have := h3.look2 (t := 69) (e := 3) lawI3 (fun x => keyI3) Tryd.underlying69 (zero_i64 _) hx
    rw [h2 x hx] at this
    exact this
  have HB := Lib.hid hb0
  clear hb0 h z hx
  unfold kV at hl0 ⊢
  go_enter Tryd.func34, Tryd.ntmps34
  go_wp2_with fail
  go_quiet (fail)
  go_wp2_with fail
  go_ret
  exact ⟨rfl, bel_dN HB.out _⟩

section
variable (G : Gr) (Ap Al As : Option Addr) (np cp nl cl ns cs : Nat) (Ai : Option Addr) (ni ci : Nat) (inp : List Int) (C : Ct)
theorem fits_any (S : Nat → Prop) (B c m p at_ i j : Nat) (hx : inK (p, at_, i)) (hj : j ≤ ni) (w : World) (h : ChIn w S B c m G Ap Al As np cp nl cl ns cs Ai ni ci inp C) :
    Calls Tryd.prog 26 #[.pointer (some ⟨c, 0, none⟩), .int .i64 p, .int .i64 at_, .int .i64 i, .int .i64 j] w fun e w' => e = .returned (.bool (fitB C p at_ i j)) ∧ Below w.heap.size w w' := by
  obtain ⟨bi, cb, z8, q1, q2, _, hr⟩ := h.it
  obtain ⟨s, mk, z1, _, z2, _, hm⟩ := hr j hj
  have HH := Lib.hid (has_any s mk (C.I j) (p, at_, i) hx w z2 hm)
  unfold kV at HH
  clear hr hm z2 hx h
  unfold maxLen at q2
  go_enter Tryd.func26, Tryd.ntmps26
  go_wp2_with fail
  refine HH.out.mono ?_
  rintro e w1 ⟨rfl, hb1⟩
  go_wp2_with fail
  go_ret
  exact ⟨rfl, hb1⟩

theorem stands_any (S : Nat → Prop) (B c m : Nat) (x : K3) (hx : inK x) (w : World) (h : ChIn w S B c m G Ap Al As np cp nl cl ns cs Ai ni ci inp C) :
    Calls Tryd.prog 16 #[.pointer (some ⟨c, 0, none⟩), kV x] w fun e w' => e = .returned (.bool (decide (x ∈ C.L))) ∧ Below w.heap.size w w' := by
  obtain ⟨ms, ns, z9, _, hm⟩ := h.sp
  have hb0 : Below w.heap.size w (w.alloc (.cells #[.int .i64 x.1, .int .i64 x.2.1, .int .i64 x.2.2] 46)) := (Below.refl _ _).alloc (Nat.le_refl _) _
  have z1 := (hb0.cell (p := ⟨c, 9, none⟩) (lt_cell z9)).trans z9
  have hl0 : ∀ q, (Instr.lookup 56 (.map (some ms)) (kV x) false).run Tryd.prog ((w.alloc (.cells #[.int .i64 x.1, .int .i64 x.2.1, .int .i64 x.2.2] 46)).drewN q) = .ok (.int .i64 (if x ∈ C.L then 1 else 0)) ((w.alloc (.cells #[.int .i64 x.1, .int .i64 x.2.1, .int .i64 x.2.2] 46)).drewN q) := fun q => by
    have h3 : SpM ((w.alloc (.cells #[.int .i64 x.1, .int .i64 x.2.1, .int .i64 x.2.2] 46)).drewN q) ms ns C.L := KMap.same hm (hb0.block ms (KMap.lt hm))
    exact SpM.look h3 hx
  have HB := Lib.hid hb0
  clear hb0 h hm hx
  unfold kV at hl0 ⊢
  by_cases q : x ∈ C.L
  · have d : Hid (decide (x ∈ C.L) = true) := Lib.hid (decide_eq_true q)
    simp only [if_pos q] at hl0
    go_enter Tryd.func16, Tryd.ntmps16
    go_wp2_with fail
    go_quiet (fail)
    go_wp2_with fail
    go_ret
    exact ⟨ret_eq (by rw [d.out]; rfl), bel_dN HB.out _⟩
  · have d : Hid (decide (x ∈ C.L) = false) := Lib.hid (decide_eq_false q)
    simp only [if_neg q] at hl0
    go_enter Tryd.func16, Tryd.ntmps16
    go_wp2_with fail
    go_quiet (fail)
    go_wp2_with fail
    go_ret
    exact ⟨ret_eq (by rw [d.out]; rfl), bel_dN HB.out _⟩

theorem whole_any (S : Nat → Prop) (B c m : Nat) (w : World) (h : ChIn w S B c m G Ap Al As np cp nl cl ns cs Ai ni ci inp C) (s : Nat) (hs : G.start = s) :
    Calls Tryd.prog 17 #[.pointer (some ⟨c, 0, none⟩)] w fun e w' => e = .returned (kV (s, 0, ni)) ∧ Below w.heap.size w w' := by
  have z2 := h.g2
  have z6 := h.c6
  rw [hs] at z2
  have hb0 : Below w.heap.size w (w.alloc (.cells #[.int .i64 0, .int .i64 0, .int .i64 0] 46)) := (Below.refl _ _).alloc (Nat.le_refl _) _
  have y2 := (hb0.cell (p := ⟨c, 2, none⟩) (lt_cell z2)).trans z2
  have y6 := (hb0.cell (p := ⟨c, 6, none⟩) (lt_cell z6)).trans z6
  have HB := Lib.hid hb0
  clear hb0 h
  unfold kV
  go_enter Tryd.func17, Tryd.ntmps17
  go_wp2_with fail
  refine wp_region_still_tail 11 (by kernel_rfl) (by kernel_rfl) ?_
  simp only [List.take_succ_cons, List.take_zero, List.drop_succ_cons, List.drop_zero]
  change wpStill _ _ (w.alloc (.cells #[.int .i64 0, .int .i64 0, .int .i64 0] 46)).drew (fun a' => wpList _ _ _ _ a' (w.alloc (.cells #[.int .i64 0, .int .i64 0, .int .i64 0] 46)).drew) _ _
  refine wpStill_of_quiet _ _ ?_
  repeat (first | go_big_quiet_skip | (go_big_quiet_want; go_big_quiet_op; go_big_quiet_on))
  refine wpQuiet_nil ?_
  go_wp2_with fail
  refine bodyPost_ret (results_cell_row rfl _ _ w.heap.size _ #[.int .i64 (s : Int), .int .i64 ((0 : Nat) : Int), .int .i64 (ni : Int)] _ _ rfl (heap_alloc_new _ _) Tryd.underlying46 rfl (by kernel_rfl)) rfl ?_
  exact ⟨rfl, ((Below.refl _ _).alloc (Nat.le_refl _) _).drew⟩

/-- A symbol, from and to where, as the program holds it. -/
def partV (s : Int) (i j : Nat) : Value := if 0 ≤ s then .iface 111 (.agg #[.int .i64 s, .int .i64 (i : Int), .int .i64 (j : Int)]) else .iface 46 (kV ((-1 - s).toNat, i, j))
theorem of_any (s : Int) (i j : Nat) (hs : -1000 ≤ s) (w : World) : Calls Tryd.prog 38 #[.int .i64 s, .int .i64 i, .int .i64 j] w fun e w' => e = .returned (partV s i j) ∧ w = w' := by
  by_cases q : 0 ≤ s
  · have d : decide (0 ≤ s) = true := decide_eq_true q
    unfold partV
    rw [if_pos q]
    clear q
    go_enter Tryd.func38, Tryd.ntmps38
    go_wp2_with fail
    go_ret
    exact ⟨rfl, rfl⟩
  · have d : decide (0 ≤ s) = false := decide_eq_false q
    have e : -1 - s = (((-1 - s).toNat : Nat) : Int) := by omega
    unfold partV kV
    rw [if_neg q]
    obtain ⟨a, ha⟩ : ∃ a, a = (-1 - s).toNat := ⟨_, rfl⟩
    rw [← ha] at e
    simp only [← ha]
    have HA := Lib.hid e
    have q' : s ≤ -1 := by omega
    clear q ha e
    go_enter Tryd.func38, Tryd.ntmps38
    go_wp2_with fail
    go_ret
    exact ⟨ret_eq (by rw [← HA.out]; rfl), rfl⟩
theorem leafStands_any (S : Nat → Prop) (B c m : Nat) (s : Int) (i j : Nat) (hs : 0 ≤ s) (hij : i ≤ j) (hj : j ≤ ni) (hn : ni ≤ 100) (w : World) (hB : B ≤ w.heap.size) (h : ChIn w S B c m G Ap Al As np cp nl cl ns cs Ai ni ci inp C) :
    Calls Tryd.prog 85 #[.agg #[.int .i64 s, .int .i64 i, .int .i64 j], .pointer (some ⟨c, 0, none⟩)] w fun e w' => e = .returned (.bool (stB C inp s i j)) ∧ Below w.heap.size w w' := by
  have hb0 : Below w.heap.size w (w.alloc (.cells #[.int .i64 s, .int .i64 (i : Int), .int .i64 (j : Int)] 111)) := (Below.refl _ _).alloc (Nat.le_refl _) _
  have z6 := (hb0.cell (p := ⟨c, 6, none⟩) (lt_cell h.c6)).trans h.c6
  obtain ⟨m1, m2⟩ := h.mi
  unfold maxLen at m2
  by_cases q : j = i + 1
  · have d0 : ((j : Int) == (i : Int) + 1) = true := by simp; omega
    obtain ⟨b, off, rfl, hb, hc⟩ := (h.ri.below (hb0.mono hB)).at_ (by rw [h.li]; omega)
    have z := hc i (by rw [h.li]; omega)
    have hx : Hid (stB C inp s i j = decide (nth inp i = s)) := Lib.hid (by unfold stB; rw [if_pos hs]; simp [q])
    have HB := Lib.hid hb0
    have hin : i < ni := by omega
    clear hb0 h hc q
    rw [hx.out]
    have hw1 : IntKind.i64.wrap ((i : Int) + 1) = (i : Int) + 1 := IntWalk.i64_in _ (by omega)
    by_cases q2 : nth inp i = s
    · have d : (nth inp i == s) = true := by simp [q2]
      have d2 : Hid (decide (nth inp i = s) = true) := Lib.hid (decide_eq_true q2)
      generalize nth inp i = u at *
      clear q2
      go_enter Tryd.func85, Tryd.ntmps85
      go_wp2_with fail
      go_quiet (fail)
      go_wp2_with fail
      go_ret
      exact ⟨ret_eq (by rw [d2.out]; rfl), bel_dN HB.out _⟩
    · have d : (nth inp i == s) = false := by simp [q2]
      have d2 : Hid (decide (nth inp i = s) = false) := Lib.hid (decide_eq_false q2)
      generalize nth inp i = u at *
      clear q2
      go_enter Tryd.func85, Tryd.ntmps85
      go_wp2_with fail
      go_quiet (fail)
      go_wp2_with fail
      go_ret
      exact ⟨ret_eq (by rw [d2.out]; rfl), bel_dN HB.out _⟩
  · have hx : Hid (stB C inp s i j = false) := Lib.hid (by unfold stB; rw [if_pos hs]; simp [q])
    have HB := Lib.hid hb0
    clear hb0 h
    rw [hx.out]
    have hw1 : IntKind.i64.wrap ((i : Int) + 1) = (i : Int) + 1 := IntWalk.i64_in _ (by omega)
    have d : ((j : Int) == (i : Int) + 1) = false := by simp; omega
    clear q
    go_enter Tryd.func85, Tryd.ntmps85
    go_wp2_with fail
    go_quiet (fail)
    go_wp2_with fail
    go_ret
    exact ⟨rfl, bel_dN HB.out _⟩
theorem spanStands_any (S : Nat → Prop) (B c m : Nat) (x : K3) (hx : inK x) (w : World) (hS : ∀ b, S b → b < w.heap.size) (h : ChIn w S B c m G Ap Al As np cp nl cl ns cs Ai ni ci inp C) :
    Calls Tryd.prog 82 #[kV x, .pointer (some ⟨c, 0, none⟩)] w fun e w' => e = .returned (.bool (decide (x ∈ C.L))) ∧ Below w.heap.size w w' := by
  have hb0 : Below w.heap.size w (w.alloc (.cells #[.int .i64 x.1, .int .i64 x.2.1, .int .i64 x.2.2] 46)) := (Below.refl _ _).alloc (Nat.le_refl _) _
  have h1 := h.kp (Kp.of (S := fun _ => False) hb0) hS (fun _ _ q => q)
  have HH := Lib.hid (stands_any G Ap Al As np cp nl cl ns cs Ai ni ci inp C S B c m x hx _ h1)
  have HB := Lib.hid hb0
  clear hb0 h h1 hx hS
  unfold kV at HH ⊢
  go_enter Tryd.func82, Tryd.ntmps82
  go_wp2_with fail
  refine HH.out.mono ?_
  rintro e w1 ⟨rfl, hb1⟩
  go_wp2_with fail
  go_ret
  exact ⟨rfl, HB.out.trans (hb1.mono (by simp))⟩
/-- A call of a part's stands. -/
theorem partStands_any (S : Nat → Prop) (B c m : Nat) (s : Int) (i j : Nat) (hs : -1000 ≤ s) (hij : i ≤ j) (hj : j ≤ ni) (hn : ni ≤ 100) (w : World) (hB : B ≤ w.heap.size) (hS : ∀ b, S b → b < w.heap.size) (h : ChIn w S B c m G Ap Al As np cp nl cl ns cs Ai ni ci inp C) :
    (0 ≤ s → partV s i j = .iface 111 (.agg #[.int .i64 s, .int .i64 (i : Int), .int .i64 (j : Int)]) ∧
      Calls Tryd.prog 85 #[.agg #[.int .i64 s, .int .i64 i, .int .i64 j], .pointer (some ⟨c, 0, none⟩)] w fun e w' => e = .returned (.bool (stB C inp s i j)) ∧ Below w.heap.size w w') ∧
    (¬ 0 ≤ s → ∃ a : Nat, Hid (a = (-1 - s).toNat) ∧ partV s i j = .iface 46 (.agg #[.int .i64 (a : Int), .int .i64 (i : Int), .int .i64 (j : Int)]) ∧
      Calls Tryd.prog 82 #[.agg #[.int .i64 (a : Int), .int .i64 (i : Int), .int .i64 (j : Int)], .pointer (some ⟨c, 0, none⟩)] w fun e w' => e = .returned (.bool (stB C inp s i j)) ∧ Below w.heap.size w w') := by
  refine ⟨fun q => ⟨by unfold partV; rw [if_pos q], leafStands_any G Ap Al As np cp nl cl ns cs Ai ni ci inp C S B c m s i j q hij hj hn w hB h⟩, fun q => ⟨_, Lib.hid rfl, by unfold partV kV; rw [if_neg q], ?_⟩⟩
  have e : stB C inp s i j = decide (((-1 - s).toNat, i, j) ∈ C.L) := by unfold stB; rw [if_neg q]
  rw [e]
  exact spanStands_any G Ap Al As np cp nl cl ns cs Ai ni ci inp C S B c m ((-1 - s).toNat, i, j) ⟨by simp only; omega, by simp only; omega, by simp only; omega⟩ w hS h
end
end Go.Proofs.YtiklbannoinioaaDoor
namespace Go.Proofs.YtiklbannoinioaaDoor
open Go
set_option linter.unusedVariables false
set_option linter.unusedSimpArgs false

section
variable {P : Program} {ops : Array Oper} {md : Region.Mode} {w : World}
/-- Each of the first n that is not marked in L0 is waited for by one behind it, up to n. -/
def sinkL (md : Region.Mode) (ops : Array Oper) (n : Nat) (L0 : Array Bool) : Bool :=
  (List.range n).all fun i => L0.getD i false || (List.range (n + 1)).any fun j => decide (i < j) && Region.waitsFor md ops j i
def Over (L0 listed : Array Bool) : Prop := ∀ j, L0.getD j false = true → listed.getD j false = true
theorem Over.set {L0 listed : Array Bool} (h : Over L0 listed) (i : Nat) : Over L0 (listed.setIfInBounds i true) := fun j hj => getD_set_true (h j hj)
theorem tailL {n : Nat} {L0 listed : Array Bool} (hs : sinkL md ops n L0 = true) (hc : Region.chainB md ops n = true) (hn : n < ops.size) (inv : HeadInv md ops n listed) (ho : Over L0 listed) :
    ∀ (d i : Nat), n - i ≤ d → i < n → listed.getD i true = false → ∀ t, n ≤ t → t ∉ Region.ready md ops listed
  | 0, i, hd, hi, _, _, _ => by omega
  | d + 1, i, hd, hi, hun, t, ht => fun hr => by
    obtain ⟨_, ot, hot, hall⟩ := mem_ready.1 hr
    have htl : t < ops.size := (Array.getElem?_eq_some_iff.1 hot).1
    have noEdge : ∀ (e : Edge), e ∈ ot.after → Region.binds md e = true → listed.getD e.on true = false → False := fun e he hb hl => by
      have := hall e he hb
      rw [getD_both hl] at this
      cases this
    rcases Nat.lt_or_ge n t with q | q
    · have h1 := List.all_eq_true.1 hc t (List.mem_range.2 htl)
      simp only [Bool.or_eq_true, decide_eq_true_eq] at h1
      rcases h1 with h1 | h1
      · omega
      · obtain ⟨o2, ho2, e, he, hb, hon⟩ := Region.waitsFor_spec h1
        rw [hot] at ho2
        cases ho2
        exact noEdge e he hb (by rw [hon]; exact inv.tail (t - 1) (by omega) (by omega))
    · obtain rfl : t = n := by omega
      have h1 := List.all_eq_true.1 hs i (List.mem_range.2 hi)
      rw [Bool.or_eq_true] at h1
      rcases h1 with h1 | h1
      · have := ho i h1
        rw [getD_both hun] at this
        cases this
      · obtain ⟨j, hj, hj2⟩ := List.any_eq_true.1 h1
        simp only [Bool.and_eq_true, decide_eq_true_eq] at hj2
        have hjt : j ≤ t := by have := List.mem_range.1 hj; omega
        obtain ⟨oj, hoj, e, he, hb, hon⟩ := Region.waitsFor_spec hj2.2
        by_cases hjn : j = t
        · subst hjn
          rw [hot] at hoj
          cases hoj
          exact noEdge e he hb (by rw [hon]; exact hun)
        · cases hl : listed.getD j false with
          | true =>
            have := inv.closed j oj hoj hl e he hb
            rw [hon, getD_both hun] at this
            cases this
          | false => exact tailL hs hc hn inv ho d j (by omega) (by omega) (getD_in (by rw [inv.size]; omega) hl) t ht hr

theorem firstL {n i : Nat} {oi : Oper} {v : Value} {L0 : Array Bool} {L : Array Bool → Act → Prop} (hi : ops[i]? = some oi) (hsel : ∀ (j : Nat) (o : Oper) cs b, ops[j]? = some o → o.op ≠ .select cs b)
    (hs : sinkL md ops n L0 = true) (hc : Region.chainB md ops n = true) (hn : n < ops.size) (hin : i < n)
    (hdone : ∀ listed a, L listed a → ∀ j ∈ Region.ready md ops listed, n ≤ j) :
    ∀ (f : Nat) (listed : Array Bool) (a : Act), HeadInv md ops n listed → Over L0 listed →
      (∀ j oj, ops[j]? = some oj → j ≠ i → listed.getD j true = false → (∀ e ∈ oj.after, Region.binds md e = true → e.on ≠ i) → oi.apart ops oj = true) →
      i ∈ Region.ready md ops listed → YieldsAt P ops w oi v a →
      wpAnyL P md ops w n L f (listed.setIfInBounds i true) (a.put oi.dst v) → wpAnyL P md ops w n L (f + 1) listed a := by
  intro f
  induction f with
  | zero =>
    intro listed a inv ho _ hr hy H
    have hun := (mem_ready.1 hr).1
    refine ⟨fun h => (by rw [h] at hr; cases hr), fun j hj => ?_⟩
    have hjn : j < n := Nat.lt_of_not_le fun q => tailL hs hc hn inv ho _ i (Nat.le_refl _) hin hun j q hj
    by_cases hji : j = i
    · subst hji; exact ⟨hjn, hy.stOp hi H⟩
    · have := hdone _ _ H j (ready_mono hj hji); omega
  | succ f ih =>
    intro listed a inv ho hfree hr hy H
    have hun := (mem_ready.1 hr).1
    refine ⟨fun h => (by rw [h] at hr; cases hr), fun j hj => ?_⟩
    have hjn : j < n := Nat.lt_of_not_le fun q => tailL hs hc hn inv ho _ i (Nat.le_refl _) hin hun j q hj
    by_cases hji : j = i
    · subst hji; exact ⟨hjn, hy.stOp hi H⟩
    · obtain ⟨hjun, oj, hoj, hall⟩ := mem_ready.1 hj
      have hno : ∀ e ∈ oj.after, Region.binds md e = true → e.on ≠ i := fun e he hb q => by
        have := hall e he hb
        rw [q, getD_both hun] at this
        cases this
      have h2 := stOp_put hoj (hfree j oj hoj hji hjun hno) (fun cs b => hsel i oi cs b hi) (fun cs b => hsel j oj cs b hoj) hy (H.2 j (ready_mono hj hji)).2
      refine ⟨hjn, stOp_mono (fun a' h3 => ih (listed.setIfInBounds j true) a' (inv.set hj hjn) (ho.set j) (fun k ok hk hki hku hkn => hfree k ok hk hki ?_ hkn) (ready_mono hr (Ne.symm hji)) h3.1 ?_) h2⟩
      · by_cases q : j = k
        · subst q; exact hjun
        · rw [getD_set_ne true q] at hku; exact hku
      · rw [Array.setIfInBounds_comm _ _ hji]; exact h3.2

theorem lexL {n g : Nat} {L0 : Array Bool} {Lq : Act → Prop} (hsel : Region.noSelect ops = true) (hs : sinkL md ops n L0 = true) (hc : Region.chainB md ops n = true) (hn : n < ops.size) :
    ∀ (l : List Oper) (k : Nat) (listed : Array Bool) (a : Act), (∀ j, j < l.length → l[j]? = ops[k + j]?) → k + l.length = n → HeadInv md ops n listed → Over L0 listed →
    Region.lexHead md ops g l.length k listed = true → wpStill P ops w Lq l a →
    wpAnyL P md ops w n (fun listed' a' => Region.seqB md ops g n listed' = true ∧ Lq a') l.length listed a
  | [], k, listed, a, _, hk, _, _, hB, h => by
    obtain rfl : k = n := by simpa using hk
    exact ⟨by simpa [Region.lexHead] using hB, h⟩
  | o :: l, k, listed, a, hl, hk, inv, ho, hB, h => by
    have h0 : ops[k]? = some o := by simpa using (hl 0 (by simp)).symm
    simp only [List.length_cons, Region.lexHead, Bool.and_eq_true] at hB
    obtain ⟨⟨hr, hf⟩, hB2⟩ := hB
    have hkn : k < n := by simp only [List.length_cons] at hk; omega
    have hr2 : k ∈ Region.ready md ops listed := by simpa using hr
    obtain ⟨v, hy, hK⟩ := yieldsAt_of_stOp h0 (show stOp P ops w k (wpStill P ops w Lq l) a by unfold stOp; simp only [h0]; exact h)
    exact firstL h0 (Region.noSelect_spec hsel) hs hc hn hkn (fun _ _ hL => seqB_ready hL.1) l.length listed a inv ho (Region.free_spec h0 hf) hr2 hy
      (lexL hsel hs hc hn l (k + 1) _ _ (fun j hj => by have := hl (j + 1) (by simp; omega); simpa [Nat.add_assoc, Nat.add_comm 1 j] using this) (by simp only [List.length_cons] at hk; omega) (inv.set hr2 hkn) (ho.set k) hB2 hK)

/-- The operations of a list in their order, each of which yields its value in whatever world. -/
def wpYld (P : Program) (ops : Array Oper) (K : Act → Prop) : List Oper → Act → Prop
  | [], a => K a
  | o :: l, a => ∃ v, Yields P ops o v a ∧ wpYld P ops K l (a.put o.dst v)
/-- They may come first; behind them stands 'listed'. -/
def yldB (md : Region.Mode) (ops : Array Oper) : Nat → Nat → Array Bool → Bool × Array Bool
  | 0, _, listed => (true, listed)
  | f + 1, k, listed => let r := yldB md ops f (k + 1) (listed.setIfInBounds k true); ((Region.ready md ops listed).contains k && Region.free md ops listed k && r.1, r.2)
theorem wpAny_yld {Q : Exit → Act → World → Prop} (hsel : Region.noSelect ops = true) (hQ : ∀ c a d v w, Q (.panic c) (a.put d v) w → Q (.panic c) a w) {g : Nat} {K : Act → Prop} :
    ∀ (l : List Oper) (k : Nat) (listed : Array Bool) (a : Act), (∀ j, j < l.length → l[j]? = ops[k + j]?) → (yldB md ops l.length k listed).1 = true →
    (∀ a', K a' → wpAny P md ops Q g (yldB md ops l.length k listed).2 a' w) → wpYld P ops K l a → wpAny P md ops Q (g + l.length) listed a w
  | [], k, listed, a, _, _, hK, h => hK a h
  | o :: l, k, listed, a, hl, hB, hK, h => by
    have h0 : ops[k]? = some o := by simpa using (hl 0 (by simp)).symm
    simp only [List.length_cons, yldB, Bool.and_eq_true] at hB hK
    obtain ⟨⟨hr, hf⟩, hB2⟩ := hB
    obtain ⟨v, hy, h2⟩ := h
    exact wpAny_take h0 hsel hf hr (fun c a w q => hQ c a _ _ w q) hy
      (wpAny_yld hsel hQ l (k + 1) _ _ (fun j hj => by have := hl (j + 1) (by simp; omega); simpa [Nat.add_assoc, Nat.add_comm 1 j] using this) hB2 hK h2)
/-- What is to be checked of the region: m ahead that touch no memory, still ones up to n, a tail in one order. -/
def stragB (md : Region.Mode) (ops : Array Oper) (m n : Nat) : Bool :=
  let r := yldB md ops m 0 (Array.replicate ops.size false)
  Region.noSelect ops && decide (n < ops.size) && decide (m ≤ n) && r.1 && sinkL md ops n r.2 && Region.chainB md ops n && Region.lexHead md ops (ops.size - n) (n - m) m r.2
theorem yldB_head {n : Nat} : ∀ (f k : Nat) (listed : Array Bool), k + f ≤ n → HeadInv md ops n listed → (yldB md ops f k listed).1 = true → HeadInv md ops n (yldB md ops f k listed).2
  | 0, k, listed, _, inv, _ => inv
  | f + 1, k, listed, h, inv, hB => by
    simp only [yldB, Bool.and_eq_true] at hB ⊢
    exact yldB_head f (k + 1) _ (by omega) (inv.set (by simpa using hB.1.1) (by omega)) hB.2
theorem wp_region_strag {id : Nat} {Q : Exit → Act → World → Prop} {a : Act} {w : World} {l : List Oper} (m n : Nat) (hm : P.follows .mixedOrders = true) (hB : stragB .any l.toArray m n = true)
    (hQ : ∀ c a d v w, Q (.panic c) (a.put d v) w → Q (.panic c) a w)
    (h : wpYld P l.toArray (fun a' => wpStill P l.toArray w.drew (fun a'' => wpList P l.toArray Q (l.drop n) a'' w.drew) ((l.drop m).take (n - m)) a') (l.take m) a) : (Code.region id l.toArray true).wp P Q a w := by
  simp only [stragB, Bool.and_eq_true, decide_eq_true_eq] at hB
  obtain ⟨⟨⟨⟨⟨⟨hsel, hn⟩, hmn⟩, hy⟩, hs⟩, hc⟩, hlex⟩ := hB
  have hn2 : n < l.length := by simpa using hn
  have hlm : (l.take m).length = m := by simp; omega
  have hlh : ((l.drop m).take (n - m)).length = n - m := by simp; omega
  have hld : (l.drop n).length = l.toArray.size - n := by simp
  have inv0 : HeadInv .any l.toArray n (Array.replicate l.toArray.size false) :=
    ⟨by simp, fun j oj _ q => (by rw [getD_replicate_false] at q; cases q), fun t _ ht => getD_in (by simpa using ht) (getD_replicate_false _ _)⟩
  have inv1 := yldB_head m 0 _ (by omega) inv0 hy
  refine wp_region_any hm ?_
  have key := wpAny_yld (md := .any) (Q := Q) (w := w.drew) (g := n - m + (l.toArray.size - n)) hsel hQ (l.take m) 0 (Array.replicate l.toArray.size false) a
    (fun j hj => by rw [hlm] at hj; simp [hj]) (by rw [hlm]; exact hy) (fun a' ha' => by
      rw [hlm]
      have H := lexL (md := .any) (g := l.toArray.size - n) hsel hs hc hn ((l.drop m).take (n - m)) m _ a' (fun j hj => by
        rw [hlh] at hj
        simp [hj]) (by rw [hlh]; omega) inv1 (fun _ q => q) (by rw [hlh]; exact hlex) ha'
      have := wpAny_of_head (Q' := Q) (g := l.toArray.size - n) (fun listed a' hL => by
        have := wpAny_of_seq (md := .any) (Q' := Q) (l.drop n) n listed a' w.drew (fun j => by simp [List.getElem?_drop]) (by rw [hld]; exact hL.1) hL.2
        rwa [hld] at this) _ _ _ H
      rwa [hlh] at this) h
  rw [hlm, show n - m + (l.toArray.size - n) + m = l.toArray.size by omega] at key
  exact key
/-- Unguarded copies of slots. -/
def movesB (l : List Oper) : Bool := l.all fun o => (match o.op with | .move _ => true | _ => false) && o.guard.isNone
theorem wpYld_of_quiet {K : Act → Prop} (l2 : List Oper) : ∀ (l : List Oper) (a : Act), movesB l = true → wpQuiet P ops (fun w' => w' = w) K (l ++ l2) a → wpYld P ops (fun a' => wpStill P ops w K l2 a') l a
  | [], a, _, h => wpStill_of_quiet _ _ h
  | o :: l, a, hB, h => by
    simp only [movesB, List.all_cons, Bool.and_eq_true] at hB
    obtain ⟨⟨hmv, hg⟩, hB2⟩ := hB
    have hw : Region.wanted o (yielded ops a.tmps) = true := by
      unfold Region.wanted
      cases hgg : o.guard with
      | none => rfl
      | some x => rw [hgg] at hg; cases hg
    have ho : ∃ x, o.op = .move x := by
      revert hmv
      cases o.op <;> simp
    obtain ⟨x, hx⟩ := ho
    rw [List.cons_append] at h
    unfold wpQuiet at h
    rw [if_pos hw] at h
    obtain ⟨v, h1, h2⟩ := h
    have h3 := h1 w rfl
    unfold Oper.quietAt at h3
    have hr : ∀ w, (execOp a.eval o).run P w = .ok (.value (a.eval x)) w := fun w => BigFrame.run_move x hx w
    rw [hr] at h3
    obtain ⟨_, h4⟩ := h3
    exact ⟨v, .inl ⟨hw, fun w => by rw [hr]; rw [h4]⟩, wpYld_of_quiet l2 l _ hB2 h2⟩
theorem wp_region_moves {id : Nat} {Q : Exit → Act → World → Prop} {a : Act} {w : World} {l : List Oper} (m n : Nat) (hm : P.follows .mixedOrders = true) (hB : stragB .any l.toArray m n = true) (hV : movesB (l.take m) = true)
    (hQ : ∀ c a d v w, Q (.panic c) (a.put d v) w → Q (.panic c) a w)
    (h : wpQuiet P l.toArray (fun w' => w' = w.drew) (fun a'' => wpList P l.toArray Q (l.drop n) a'' w.drew) (l.take n) a) : (Code.region id l.toArray true).wp P Q a w := by
  have hB2 := hB
  simp only [stragB, Bool.and_eq_true, decide_eq_true_eq] at hB2
  obtain ⟨⟨⟨⟨⟨⟨_, _⟩, hmn⟩, _⟩, _⟩, _⟩, _⟩ := hB2
  refine wp_region_strag m n hm hB hQ (wpYld_of_quiet _ _ _ hV ?_)
  have e : l.take m ++ (l.drop m).take (n - m) = l.take n := by
    rw [← List.drop_take]
    have : l.take m = (l.take n).take m := by rw [List.take_take, Nat.min_eq_left hmn]
    rw [this, List.take_append_drop]
  rw [e]; exact h
end
end Go.Proofs.YtiklbannoinioaaDoor
namespace Go.Proofs.YtiklbannoinioaaDoor
open Go
set_option linter.unusedVariables false
section
variable {P : Program} {ops : Array Oper} {Q : Exit → Act → World → Prop} {md : Region.Mode}
theorem wpOp_of_list {i : Nat} {o : Oper} {K : Act → World → Prop} {a : Act} {w : World} (ho : ops[i]? = some o) (h : wpList P ops (Exit.then K Q) [o] a w) : wpOp P ops Q i K a w := by
  unfold wpOp
  rw [ho]
  unfold wpList at h
  simp only
  split
  · rename_i hw
    rw [if_pos hw] at h
    rcases h with h | ⟨h1, a0, w0, h2⟩
    · left
      unfold Oper.wp at h ⊢
      generalize (execOp a.eval o).run P w = r at *
      cases r with
      | ok n w' =>
        cases n <;> simp only [Oper.upon] at h ⊢ <;> exact h
      | halt x w' => cases x <;> simp only [Oper.upon] at h ⊢ <;> exact h
    · exact .inr ⟨h1, a0, w0, h2⟩
  · rename_i hw
    rw [if_neg hw] at h
    exact h
/-- All edges that bind lead to what stands ahead. -/
def ordB (md : Region.Mode) (ops : Array Oper) : Bool := (List.range ops.size).all fun i => ((ops[i]?).map (·.after.all fun e => !Region.binds md e || decide (e.on < i))).getD true
theorem ready_nil {listed : Array Bool} (hord : ordB md ops = true) (hsz : listed.size = ops.size) (h : Region.ready md ops listed = []) : ∀ i, i < ops.size → listed.getD i true = true := by
  intro i
  induction i using Nat.strongRecOn with
  | _ i ih =>
    intro hi
    cases hl : listed.getD i true with
    | true => rfl
    | false =>
      exfalso
      have hr : i ∈ Region.ready md ops listed := by
        refine mem_ready.2 ⟨hl, ops[i], Array.getElem?_eq_getElem hi, fun e he hb => ?_⟩
        have h1 := List.all_eq_true.1 hord i (List.mem_range.2 hi)
        rw [Array.getElem?_eq_getElem hi] at h1
        simp only [Option.map_some, Option.getD_some] at h1
        obtain ⟨k, hk, hke⟩ := Array.getElem_of_mem he
        have h2 := Array.all_eq_true.1 h1 k hk
        rw [hke, hb] at h2
        simp at h2
        have h3 := ih e.on h2 (by omega)
        have h4 : e.on < listed.size := by omega
        simp [h4] at h3 ⊢
        exact h3
      rw [h] at hr
      cases hr
def cntB : List Bool → Nat
  | [] => 0
  | b :: l => (if b = true then 0 else 1) + cntB l
theorem cntB_set : ∀ (l : List Bool) (i : Nat), l[i]? = some false → cntB (l.set i true) + 1 = cntB l
  | [], i, h => by simp at h
  | b :: l, 0, h => by
    simp at h
    subst h
    simp [cntB]; omega
  | b :: l, i + 1, h => by
    have := cntB_set l i (by simpa using h)
    simp only [List.set_cons_succ, cntB]
    omega
theorem cntB_zero : ∀ (l : List Bool), cntB l = 0 → ∀ (i : Nat) (b : Bool), l[i]? = some b → b = true
  | [], _, i, b, h => by simp at h
  | c :: l, h0, 0, b, h => by
    simp only [cntB] at h0
    simp at h
    subst h
    cases c
    · simp at h0
    · rfl
  | c :: l, h0, i + 1, b, h => by
    simp only [cntB] at h0
    exact cntB_zero l (by omega) i b (by simpa using h)
theorem wpAny_inv (Inv : Array Bool → Act → World → Prop) (hord : ordB md ops = true) (hsz : ∀ l a w, Inv l a w → l.size = ops.size) (hend : ∀ l a w, Inv l a w → (∀ i, i < ops.size → l.getD i true = true) → Q .normal a w)
    (hs : ∀ l a w i, Inv l a w → i ∈ Region.ready md ops l → wpOp P ops Q i (Inv (l.setIfInBounds i true)) a w) : ∀ n l a w, cntB l.toList ≤ n → Inv l a w → wpAny P md ops Q n l a w
  | 0, l, a, w, hc, h => by
    have hall : ∀ i, l.getD i true = true := fun i => by
      rcases Nat.lt_or_ge i l.size with hi | hi
      · have := cntB_zero l.toList (by omega) i l[i] (by simp [hi])
        simp [hi]; exact this
      · simp [Array.getElem?_eq_none hi]
    have hr : Region.ready md ops l = [] := by
      cases hr : Region.ready md ops l with
      | nil => rfl
      | cons i r =>
        have := (mem_ready.1 (by rw [hr]; exact List.mem_cons_self : i ∈ Region.ready md ops l)).1
        rw [hall i] at this
        cases this
    exact ⟨hr, hend l a w h (fun i _ => hall i)⟩
  | n + 1, l, a, w, hc, h => ⟨fun hr => hend l a w h (ready_nil hord (hsz l a w h) hr), fun i hi => by
    have h1 := hs l a w i h hi
    have hli := (mem_ready.1 hi).1
    have hcn : cntB (l.setIfInBounds i true).toList ≤ n := by
      have hil : i < l.size := by
        rcases Nat.lt_or_ge i l.size with q | q
        · exact q
        · simp [Array.getElem?_eq_none q] at hli
      have := cntB_set l.toList i (by simp [hil] at hli ⊢; exact hli)
      simp
      omega
    have hm : ∀ a w, Inv (l.setIfInBounds i true) a w → wpAny P md ops Q n (l.setIfInBounds i true) a w := fun a w q => wpAny_inv Inv hord hsz hend hs n _ a w hcn q
    unfold wpOp at h1 ⊢
    split
    · rename_i ho; rw [ho] at h1; exact hm _ _ h1
    · rename_i o ho
      rw [ho] at h1
      simp only at h1 ⊢
      split
      · rename_i hw
        rw [if_pos hw] at h1
        rcases h1 with h1 | h1
        · exact .inl (Oper.wp_mono hm h1)
        · exact .inr h1
      · rename_i hw
        rw [if_neg hw] at h1
        exact hm _ _ h1⟩
/-- A region of so many operations, from behind the draw. -/
theorem wp_region_inv {id : Nat} {a : Act} {w : World} (hm : P.follows .mixedOrders = true) (Inv : Array Bool → Act → World → Prop) (hord : ordB .any ops = true) (hsz : ∀ l a w, Inv l a w → l.size = ops.size) (hend : ∀ l a w, Inv l a w → (∀ i, i < ops.size → l.getD i true = true) → Q .normal a w)
    (hs : ∀ l a w i, Inv l a w → i ∈ Region.ready .any ops l → wpOp P ops Q i (Inv (l.setIfInBounds i true)) a w) (h : Inv (Array.replicate ops.size false) a { w with drawn := w.drawn + 1 }) : (Code.region id ops true).wp P Q a w := by
  refine wp_region_any hm (wpAny_inv Inv hord hsz hend hs _ _ _ _ ?_ h)
  have : ∀ n, cntB (List.replicate n false) ≤ n := fun n => by
    induction n with
    | zero => exact Nat.le_refl _
    | succ n ih => rw [List.replicate_succ]; simp only [cntB]; simp; omega
  simpa using this ops.size
end
end Go.Proofs.YtiklbannoinioaaDoor
