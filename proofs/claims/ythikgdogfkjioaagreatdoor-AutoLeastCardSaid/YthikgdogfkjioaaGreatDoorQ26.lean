/- The document's least automaton. · Memory: maps from numbers to numbers. -/
import Derived.Test.YthikgdogfkjioaaGreatDoorQ23
import Derived.Test.YthikgdogfkjioaaGreatDoorQ25
import Derived.Test.YthikgdogfkjioaaGreatDoorQ14
import Derived.Maps.RangeWalk
import Derived.Maps.OwnOps
import Derived.Maps.OwnSet
namespace Go.Proofs.YthikgdogfkjioaaGreatDoor
open Go.RowKit BigFrame
set_option linter.unusedVariables false
set_option linter.unusedSimpArgs false
set_option maxRecDepth 100000

theorem totR_setsR (l : List St) : totR (setsR l) = totM l := by
  unfold totR setsR totM
  induction l with
  | nil => rfl
  | cons a r ih =>
    rw [List.flatMap_cons, List.map_append, List.sum_append, ih, List.map_cons, List.sum_cons]
    congr 1
    induction a.2 with
    | nil => rfl
    | cons b q ih2 => simp only [List.map_cons, List.sum_cons, List.length_cons, List.length_nil, List.map_map] at ih2 ⊢; omega
theorem setsR_one {l : List St} : ∀ s ∈ setsR l, s.length ≤ 60 := fun s hs => by
  unfold setsR at hs
  obtain ⟨st, _, h2⟩ := List.mem_flatMap.1 hs
  obtain ⟨m, _, rfl⟩ := List.mem_map.1 h2
  simp
/-- A cell that holds no number may be set. -/
theorem cell_far {w : World} {g : Nat} {e : TypeId} {A0 : Option Addr} {n0 c0 : Nat} (hk : Blk w g e [.slice A0 n0 c0]) {b o : Nat} {z : Int} (h : w.cell? ⟨b, o, none⟩ = some (.int .i64 z)) : b ≠ g := fun q => by
  subst q
  rw [cell_of_row w b o _ e (0, 0) hk] at h
  cases o with
  | zero => simp at h
  | succ o => simp at h
theorem cell_set {w : World} {p q : Addr} {x : Value} (h : q.block ≠ p.block) : (w.setCell p x).cell? q = w.cell? q := World.cell?_of_block (Below.heap_setCell w p x q.block h)
theorem RdA.set1 {w : World} {B g : Nat} {e : TypeId} {A A0 : Option Addr} {n0 c0 : Nat} {l : List St} (h : RdA w B A l) (hk : Blk w g e [.slice A0 n0 c0]) (x : Value) : RdA (w.setCell ⟨g, 0, none⟩ x) B A l := fun h0 => by
  obtain ⟨b, off, e, hb, hc⟩ := h h0
  have hne : b ≠ g := cell_far hk (hc 0 _ (List.getElem?_eq_getElem h0)).1
  refine ⟨b, off, e, hb, fun k s hs => ?_⟩
  obtain ⟨z0, A', c', z1, q1, q2, r⟩ := hc k s hs
  refine ⟨(cell_set (p := ⟨g, 0, none⟩) (q := ⟨b, off + k * 2, none⟩) hne).trans z0, A', c', (cell_set (p := ⟨g, 0, none⟩) (q := ⟨b, off + k * 2 + 1, none⟩) hne).trans z1, q1, q2, fun hn => ?_⟩
  obtain ⟨b2, o2, e2, hb2, hc2⟩ := r hn
  have hl : 0 < s.2.length := by
    cases hs2 : s.2 with
    | nil => rw [hs2] at hn; exact absurd rfl hn
    | cons => simp
  have hne2 : b2 ≠ g := cell_far hk (hc2 0 _ (mvc_get (l := s.2) (k := 0) (List.getElem?_eq_getElem hl)).1)
  exact ⟨b2, o2, e2, hb2, fun j u hu => (cell_set (p := ⟨g, 0, none⟩) (q := ⟨b2, o2 + j, none⟩) hne2).trans (hc2 j u hu)⟩
/-- The document's answer. -/
structure LeaR (l : List St) (acc : List St) : Prop where
  ex : ∃ C T L, Parted (setsR l) C ∧ (∀ s t, s < l.length + 1 → t < l.length + 1 → (dM T s t = false ↔ Eqv (rul l) (fun s c => dlt l s (repOf C c)) (· < C.length) s t)) ∧
    (∀ s, s < l.length + 1 → (bth L s = false ↔ Live (rul l) (fun s c => dlt l s (repOf C c)) (· < C.length) s)) ∧
    ((bth L 0 = true ∧ acc = []) ∨ (bth L 0 = false ∧ ∃ E ord, EdS E C ∧ ShI (l.length + 1) (shE T L (fun s c => dlt l s (repOf C c)) C (rul l)) (stretches E) ord.length ord acc))

set_option maxHeartbeats 4000000 in
theorem rLeast_any (A : Option Addr) (n c : Nat) (l : List St) (w : World) (B : Nat) (hB : B ≤ w.heap.size) (h : (shL shState).rd w (Lo B) l [.slice A n c]) (hok : okA l = true) (hl : l.length = n) (h0 : 0 < n) (hn : n ≤ 14) (hm : totM l ≤ 60) :
    Calls Tryz.prog 7 #[.agg #[.slice A n c]] w fun e w' => ∃ A' c' acc, e = .returned (.agg #[.slice A' (List.length acc) c']) ∧ acc.length ≤ n + 1 ∧ RdA w' w'.heap.size A' acc ∧ Below w.heap.size w w' ∧ LeaR l acc := by
  have H := Lib.hid h; have HL := Lib.hid hl; have HOK := Lib.hid hok; have HM := Lib.hid hm
  obtain ⟨g, hg⟩ : ∃ g, w.heap.size = g := ⟨_, rfl⟩
  obtain ⟨W1, hW1⟩ : ∃ W1, W1 = (w.alloc (.cells #[.slice A n c] 24)).alloc (.cells #[.slice none 0 0] 24) := ⟨_, rfl⟩
  have hs1 : W1.heap.size = g + 1 + 1 := by rw [hW1, ← hg]; simp
  have hb1 : Below g w W1 := by rw [hW1, ← hg]; exact ((Below.refl _ _).alloc (Nat.le_refl _) _).alloc (by simp) _
  have hk1 : Blk W1 g 24 [.slice A n c] := by rw [hW1, ← hg]; exact (Blk.new w _ _).alloc _
  have hr1 : Blk W1 (g + 1) 24 [.slice none 0 0] := by
    have := Blk.new (w.alloc (.cells #[.slice A n c] 24)) 24 [.slice none 0 0]
    rw [show (w.alloc (.cells #[.slice A n c] 24)).heap.size = g + 1 by rw [← hg]; simp] at this
    rw [hW1]; exact this
  have HB1 := Lib.hid hb1; have HK1 := Lib.hid hk1; have HS1 := Lib.hid hs1; have HG := Lib.hid hg; have HR1 := Lib.hid hr1
  have HA := Lib.hid (rMoveSets_any A n c l W1 B (by omega) (Sh.below h (hb1.mono (by omega))) hl (by omega) hm)
  have z0 := hk1.cell (i := 0) rfl
  have d0 : ((n : Int) == 0) = false := by simp; omega
  have hgB : B ≤ g := by omega
  clear h hok hl hm hb1 hk1 hs1 hr1
  go_enter Tryz.func7, Tryz.ntmps7
  go_wp2_with fail
  rw [← hW1]
  clear hW1
  go_wp2_with fail
  refine HA.out.mono ?_
  clear HA hg
  rintro e w2 ⟨v2, vs2, rfl, hv2, hb2⟩
  have hs1 := HS1.out
  have hz2 := hb2.size
  obtain ⟨A2, c2, rfl, -, -, hr2⟩ := hv2.rds
  have HA := Lib.hid (rClasses_any A2 (setsR l).length c2 (setsR l) w2 w2.heap.size (Nat.le_refl _) hr2 rfl (by rw [totR_setsR, setsR_len]; have := HM.out; omega) setsR_one)
  have HB2 : Hid (Below (g + 1 + 1) W1 w2) := Lib.hid (by rw [hs1] at hb2; exact hb2)
  clear hv2 hb2 hr2 z0
  go_wp2_with fail
  refine HA.out.mono ?_
  clear HA
  rintro e w3 ⟨v3, vs3, C, rfl, hv3, hP, hb3, hC1, hC2⟩
  have hz3 := hb3.size
  obtain ⟨A3, c3, rfl, hc1, hc2, hr3⟩ := hv3.rds
  have HB3 : Hid (Below (g + 1 + 1) W1 w3) := Lib.hid (HB2.out.trans (hb3.mono (by omega)))
  have hbw3 : Below g w w3 := HB1.out.trans (HB3.out.mono (by omega))
  have hne : ∀ c ∈ C, c ≠ [] := fun c hc => by
    obtain ⟨p, hp, hm⟩ := (hP.each c hc).self
    exact can_ne hm
  have HCL : Hid (∀ c ∈ C, c.length ≤ 100000) := Lib.hid (fun c hc => by
    obtain ⟨k, hk, rfl⟩ := List.getElem_of_mem hc
    have h1 := totR_take hk
    have h2 := totR_take_le C (k + 1)
    omega)
  have HA := Lib.hid (full_any A A3 n c C.length c3 l C w3 w3.heap.size (Nat.le_refl _) (Sh.up (Sh.below H.out (hbw3.mono hgB)) (by have := hbw3.size; omega)) HOK.out HL.out (by omega) hr3 rfl hc1 hc2 (by omega) hne)
  have hk3 := HK1.out.below HB3.out (by omega)
  have z0 := hk3.cell (i := 0) rfl
  have HP := Lib.hid hP
  clear hv3 hb3 hr3 hk3 hP hne hbw3
  go_wp2_with fail
  refine HA.out.mono ?_
  clear HA z0
  rintro e w4 ⟨Ar, Am, cr, cm, rfl, hF, hb4⟩
  have hz4 := hb4.size
  obtain ⟨w5, hw5⟩ : ∃ w5, w5 = w4.alloc (.cells #[.slice A3 C.length c3, .slice Ar (n + 1) cr, .slice Am (n + 1) cm] 48) := ⟨_, rfl⟩
  have hb5 : Below w4.heap.size w4 w5 := by rw [hw5]; exact (Below.refl _ _).alloc (Nat.le_refl _) _
  have hz5 := hb5.size
  have hFP := full_FuP HOK.out C
  rw [HL.out] at hFP
  have HA := Lib.hid (shrink_any A3 Ar Am c3 cr cm C.length (n + 1) (setsR l) C (fulR l) (fulM l C) (rul l) (fun s c => dlt l s (repOf C c)) w5 w4.heap.size hz5 (hF.below hb5) hFP rfl (by omega) (by omega) (by omega) HP.out HCL.out hC2)
  have HB5 : Hid (Below (g + 1 + 1) W1 w5) := Lib.hid (HB3.out.trans ((hb4.mono (by omega)).trans (hb5.mono (by omega))))
  clear hF hb4 hb5 hFP
  go_wp2_with fail
  rw [← hw5]
  refine HA.out.mono ?_
  clear HA hw5
  rintro e w6 ⟨A6, c6, acc, rfl, h61, h62, h63, T, L, h64, h65, h66⟩
  have hb6 : Below (g + 1 + 1) W1 w6 := HB5.out.trans (h63.mono (by have := HB5.out.size; omega))
  have hr6 := HR1.out.below hb6 (by omega)
  have r0 := hr6.cell (i := 0) rfl
  have r1 := hr6.frozen 0
  have r2 := hr6.lt
  have HR6 := Lib.hid (hr6.set_ 0 (.slice A6 acc.length c6))
  have HR1x := Lib.hid hr6
  have hgw := HG.out
  have hb7 : Below g w (w6.setCell ⟨g + 1, 0, none⟩ (.slice A6 acc.length c6)) := (HB1.out.trans (hb6.mono (by omega))).setCell (p := ⟨g + 1, 0, none⟩) (show g ≤ g + 1 by omega) _
  have HB7 := Lib.hid hb7
  have HR7 := Lib.hid h62; have H65 := Lib.hid h65; have H64 := Lib.hid h64; have H66 := Lib.hid h66
  have h6n : acc.length ≤ n + 1 := h61
  clear hb6 hr6 hb7 h62 h63 h64 h65 h66
  go_wp2_with fail
  refine bodyPost_ret (results_cell_row rfl _ _ (g + 1) _ #[.slice A6 acc.length c6] _ _ rfl HR6.out Tryz.underlying24 rfl (by kernel_rfl)) rfl ?_
  refine ⟨A6, c6, acc, rfl, h6n, ?_, by rw [hgw]; exact HB7.out, ⟨C, ?_⟩⟩
  · have h1 := HR7.out.set1 HR1x.out
    rw [setCell_size]
    exact h1 _
  · have e := HL.out
    subst e
    exact ⟨T, L, HP.out, H64.out, H65.out, H66.out⟩
end Go.Proofs.YthikgdogfkjioaaGreatDoor
namespace Go.Proofs.YthikgdogfkjioaaGreatDoor
open Go.RowKit BigFrame Go.Maps
set_option linter.unusedVariables false
set_option linter.unusedSimpArgs false
set_option maxRecDepth 100000

theorem lawI : Keyed Tryz.prog 3 := int_keyed Tryz.underlying3
def wfI (x : Int) : Prop := (Lit.int .i64 x).wf = true
theorem wfI_nat {a : Nat} (h : a ≤ 1000000) : wfI (a : Int) := WalkArith.wf_i64 (by omega)
theorem keyI {x : Int} (h : wfI x) : keyOf Tryz.prog 3 (.int .i64 x) = some (.int .i64 x) := keyOf_int_mk Tryz.underlying3 h
/-- Map b leads from numbers to numbers, as f says. -/
def IMap (w : World) (b n : Nat) (f : Int → Option Nat) : Prop :=
  ∃ D : DataW Unit, w.ownsMap Tryz.prog 3 (plainElem Tryz.prog 3) b n D ∧ ∀ x, wfI x → Maps.has D (.int .i64 x) = (f x).isSome ∧ D.atKey (.int .i64 x) (.lit (.int .i64 0)) = .lit (.int .i64 (((f x).getD 0 : Nat) : Int))
section
variable {w w' : World} {b n : Nat} {f : Int → Option Nat}
theorem IMap.lt (h : IMap w b n f) : b < w.heap.size := by obtain ⟨D, hD, _⟩ := h; exact hD.lt
theorem IMap.kept (h : IMap w b n f) {row : Option Nat} (hg : w.grownBy w' row) (hne : some b ≠ row) : IMap w' b n f := by
  obtain ⟨D, hD, h2⟩ := h
  exact ⟨D, hD.kept hg hne, h2⟩
theorem IMap.ext (h : IMap w b n f) (hb : Below w.heap.size w w') : IMap w' b n f := h.kept (row := none) ⟨hb.os, hb.tape, hb.output, hb.size, fun k hk _ => hb.block k hk⟩ (by simp)
theorem IMap.set_ (h : IMap w b n f) {a : Addr} (ha : b ≠ a.block) (u : Value) : IMap (w.setCell a u) b n f := by
  obtain ⟨D, hD, h2⟩ := h
  exact ⟨D, hD.setCell ha u, h2⟩
theorem IMap.made (w : World) : IMap (w.alloc (.map #[] 0)) w.heap.size 0 (fun _ => none) :=
  ⟨.map [], World.ownsMap_made _ _ _ _, fun x _ => ⟨by simp [Maps.has], rfl⟩⟩
theorem IMap.congr {f' : Int → Option Nat} (h : IMap w b n f) (e : ∀ x, wfI x → f' x = f x) : IMap w b n f' := by
  obtain ⟨D, hD, h2⟩ := h
  exact ⟨D, hD, fun x hx => by rw [e x hx]; exact h2 x hx⟩
/-- `v, ok := m[x]`. -/
theorem IMap.look2 (h : IMap w b n f) {x : Int} (hx : wfI x) : (Instr.lookup 59 (.map (some b)) (.int .i64 x) true).run Tryz.prog w = .ok (.tuple #[.int .i64 (((f x).getD 0 : Nat) : Int), .bool (f x).isSome]) w := by
  obtain ⟨D, hD, h2⟩ := h
  obtain ⟨v, ps, hrun, hv⟩ := hD.look_ok (t := 59) (e := 3) lawI Tryz.underlying59 (z := .int .i64 0) (by rfl) (zd := .lit (.int .i64 0)) (zp := []) (plainElem_int Tryz.underlying3 (by decide)) (keyI hx)
  obtain ⟨e1, e2⟩ := h2 x hx
  rw [e2] at hv
  have ev : v = .int .i64 (((f x).getD 0 : Nat) : Int) := by
    obtain ⟨a, e3, e4, _⟩ := plainElem_int_inv Tryz.underlying3 hv
    simp only [Prod.mk.injEq] at e4
    have e5 := e4.1
    injection e5 with e5
    injection e5 with _ e5
    rw [e3, e5]
  rw [hrun, e1, ev]
/-- `m[x]`. -/
theorem IMap.look1 (h : IMap w b n f) {x : Int} (hx : wfI x) : (Instr.lookup 59 (.map (some b)) (.int .i64 x) false).run Tryz.prog w = .ok (.int .i64 (((f x).getD 0 : Nat) : Int)) w := by
  obtain ⟨D, hD, h2⟩ := h
  obtain ⟨c, hrun, hat, hw⟩ := hD.lookup_int (t := 59) lawI Tryz.underlying59 Tryz.underlying3 (by rfl) (keyI hx)
  rw [(h2 x hx).2] at hat
  injection hat with hat
  injection hat with _ hat
  rw [hrun, hat]
/-- `m[x] = v`. -/
theorem IMap.put (h : IMap w b n f) {x : Int} (hx : wfI x) {v : Nat} (hv : v ≤ 1000000) (hn : n < 1000000) :
    ∃ w', (Instr.mapUpdate 59 (.map (some b)) (.int .i64 x) (.int .i64 (v : Int))).run Tryz.prog w = .ok () w' ∧ IMap w' b (n + 1) (fun y => if y = x then some v else f y) ∧ w.grownBy w' (some b) := by
  obtain ⟨D, hD, h2⟩ := h
  obtain ⟨w', hrun, hD', hg⟩ := hD.update (t := 59) (e := 3) lawI Tryz.underlying59 (by unfold maxLen; omega) (keyI hx) (val := .int .i64 (v : Int)) (plainElem_int Tryz.underlying3 (wfI_nat hv))
  refine ⟨w', hrun, ⟨_, hD', fun y hy => ?_⟩, hg⟩
  simp only
  by_cases e : y = x
  · subst e
    rw [if_pos rfl]
    exact ⟨by rw [has_put_same hD.isMap (by exact trivial)]; rfl, by rw [atKey_put_same hD.isMap (by exact trivial)]; rfl⟩
  · rw [if_neg e]
    exact ⟨by rw [has_put_other (fun q => e (by injection q))]; exact (h2 y hy).1, by rw [atKey_put_other (fun q => e (by injection q))]; exact (h2 y hy).2⟩
end
end Go.Proofs.YthikgdogfkjioaaGreatDoor
