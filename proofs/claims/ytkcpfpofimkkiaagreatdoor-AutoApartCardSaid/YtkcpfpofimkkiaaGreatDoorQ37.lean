/- The program's search. -/
import Derived.Test.YtkcpfpofimkkiaaGreatDoorQ36
import Derived.Test.YtkcpfpofimkkiaaGreatDoorQ1
import Derived.Test.YtkcpfpofimkkiaaGreatDoorQ30
import Derived.Test.YtkcpfpofimkkiaaGreatDoorQ17
import Derived.Test.YtkcpfpofimkkiaaGreatDoorQ15
import Derived.Test.YtkcpfpofimkkiaaGreatDoorQ27
import Derived.Deep.Cut
import Derived.Deep.CutRange
import Derived.Deep.LoopGhost
namespace Go.Proofs.YtkcpfpofimkkiaaGreatDoor
open Go.RowKit BigFrame Go.Maps
set_option linter.unusedVariables false
set_option linter.unusedSimpArgs false
set_option maxRecDepth 100000

/-- The text of a way. -/
def wayP (r : Option (List Int)) : ByteArray := strOfNums (txtZ (r.getD []))

set_option maxHeartbeats 8000000 in
theorem search_any (fid : FuncId) (caps : Array Value) (hit : Nat × Nat → Bool) (hrun : ∀ args w, (callFunc fid args).run Tryz.prog w = .ok (.enter fid args) w)
    (Ar Am Ar' Am' Ax Ay : Option Addr) (n n' P K cr cm cr' cm' cx cy : Nat) (la lb : List St) (C : List (List Rg)) (X : List Rg) (Y : List Int) (w : World) (B : Nat) (hB : B ≤ w.heap.size)
    (hcall : ∀ (W : World), Below B w W → ∀ x y, x ≤ la.length → y ≤ lb.length → Calls Tryz.prog fid (#[.int .i64 (rul la x), .int .i64 (rul lb y)] ++ caps) W fun e w' => e = .returned (.bool (hit (x, y))) ∧ Below W.heap.size W w')
    (hok : okA la = true) (hok' : okA lb = true) (hl : la.length = n) (hl' : lb.length = n') (hn : n ≤ 14) (hn' : n' ≤ 14)
    (hR : RdI w B Ar (fulR la)) (hM : RdM w B Am (fulM la C)) (hR' : RdI w B Ar' (fulR lb)) (hM' : RdM w B Am' (fulM lb C))
    (hX : RdG w B Ax X) (hXl : X.length = P) (hY : RdI w B Ay Y) (hA : AlP C X Y) (hK : C.length = K) (hPn : P ≤ 106260) (hKn : K ≤ 1000)
    (hC : Cls la C.length (repOf C) (clsOf C)) (hC' : Cls lb C.length (repOf C) (clsOf C)) (hXp : ∀ r ∈ X, isP r.1 ∧ isP r.2) (hone : ∀ r ∈ X, ∀ p, r.1 ≤ p → p ≤ r.2 → clsOf C p = clsOf C r.1)
    (hc1 : n + 1 ≤ cr ∧ cr ≤ maxLen) (hc2 : n + 1 ≤ cm ∧ cm ≤ maxLen) (hc3 : n' + 1 ≤ cr' ∧ cr' ≤ maxLen) (hc4 : n' + 1 ≤ cm' ∧ cm' ≤ maxLen) (hc5 : P ≤ cx ∧ cx ≤ maxLen) (hc6 : P ≤ cy ∧ cy ≤ maxLen) :
    Calls Tryz.prog 15 #[.agg #[.int .i64 (K : Int), .slice Ar (n + 1) cr, .slice Am (n + 1) cm], .agg #[.int .i64 (K : Int), .slice Ar' (n' + 1) cr', .slice Am' (n' + 1) cm'], .agg #[.slice Ax P cx, .slice Ay P cy, .int .i64 (K : Int)], .func (.func fid) #[] caps] w
      fun e w' => ∃ r, AnsN (stP la lb) (X.filterMap fpt) hit r ∧ e = .returned (.tuple #[.string (wayP r), .bool r.isSome]) ∧ Below w.heap.size w w' := by
  obtain ⟨g, hg⟩ : ∃ g, w.heap.size = g := ⟨_, rfl⟩
  obtain ⟨W0, hW0⟩ : ∃ W0, W0 = (((w.alloc (.cells #[.int .i64 (K : Int), .slice Ar (n + 1) cr, .slice Am (n + 1) cm] 46)).alloc (.cells #[.int .i64 (K : Int), .slice Ar' (n' + 1) cr', .slice Am' (n' + 1) cm'] 46)).alloc (.cells #[.slice Ax P cx, .slice Ay P cy, .int .i64 (K : Int)] 39)).alloc (.cells #[.int .i64 0, .int .i64 0] 68) := ⟨_, rfl⟩
  have hs0 : W0.heap.size = g + 4 := by rw [hW0, ← hg]; simp
  have hb0 : Below g w W0 := by rw [hW0, ← hg]; exact ((((Below.refl _ _).alloc (Nat.le_refl _) _).alloc (by simp) _).alloc (by simp only [World.size_alloc]; omega) _).alloc (by simp only [World.size_alloc]; omega) _
  have hka : Blk W0 g 46 [.int .i64 (K : Int), .slice Ar (n + 1) cr, .slice Am (n + 1) cm] := by rw [hW0, ← hg]; exact (((Blk.new w _ _).alloc _).alloc _).alloc _
  have hkb : Blk W0 (g + 1) 46 [.int .i64 (K : Int), .slice Ar' (n' + 1) cr', .slice Am' (n' + 1) cm'] := by
    have := ((Blk.new (w.alloc (.cells #[.int .i64 (K : Int), .slice Ar (n + 1) cr, .slice Am (n + 1) cm] 46)) 46 [.int .i64 (K : Int), .slice Ar' (n' + 1) cr', .slice Am' (n' + 1) cm']).alloc (.cells #[.slice Ax P cx, .slice Ay P cy, .int .i64 (K : Int)] 39)).alloc (.cells #[.int .i64 0, .int .i64 0] 68)
    rw [show (w.alloc (.cells #[.int .i64 (K : Int), .slice Ar (n + 1) cr, .slice Am (n + 1) cm] 46)).heap.size = g + 1 by rw [← hg]; simp] at this
    rw [hW0]; exact this
  have hkx : Blk W0 (g + 2) 39 [.slice Ax P cx, .slice Ay P cy, .int .i64 (K : Int)] := by
    have := (Blk.new ((w.alloc (.cells #[.int .i64 (K : Int), .slice Ar (n + 1) cr, .slice Am (n + 1) cm] 46)).alloc (.cells #[.int .i64 (K : Int), .slice Ar' (n' + 1) cr', .slice Am' (n' + 1) cm'] 46)) 39 [.slice Ax P cx, .slice Ay P cy, .int .i64 (K : Int)]).alloc (.cells #[.int .i64 0, .int .i64 0] 68)
    rw [show ((w.alloc (.cells #[.int .i64 (K : Int), .slice Ar (n + 1) cr, .slice Am (n + 1) cm] 46)).alloc (.cells #[.int .i64 (K : Int), .slice Ar' (n' + 1) cr', .slice Am' (n' + 1) cm'] 46)).heap.size = g + 2 by rw [← hg]; simp] at this
    rw [hW0]; exact this
  have hkz : Blk W0 (g + 3) 68 [.int .i64 0, .int .i64 0] := by
    have := Blk.new (((w.alloc (.cells #[.int .i64 (K : Int), .slice Ar (n + 1) cr, .slice Am (n + 1) cm] 46)).alloc (.cells #[.int .i64 (K : Int), .slice Ar' (n' + 1) cr', .slice Am' (n' + 1) cm'] 46)).alloc (.cells #[.slice Ax P cx, .slice Ay P cy, .int .i64 (K : Int)] 39)) 68 [.int .i64 0, .int .i64 0]
    rw [show (((w.alloc (.cells #[.int .i64 (K : Int), .slice Ar (n + 1) cr, .slice Am (n + 1) cm] 46)).alloc (.cells #[.int .i64 (K : Int), .slice Ar' (n' + 1) cr', .slice Am' (n' + 1) cm'] 46)).alloc (.cells #[.slice Ax P cx, .slice Ay P cy, .int .i64 (K : Int)] 39)).heap.size = g + 3 by rw [← hg]; simp] at this
    rw [hW0]; exact this
  obtain ⟨W1, hW1⟩ : ∃ W1, W1 = W0.alloc (.map #[] 0) := ⟨_, rfl⟩
  have hm1 : QMap W1 (g + 4) 0 (fun _ => none) := by
    have := QMap.made W0
    rw [hs0] at this
    rw [hW1]; exact this
  have hb1 : Below (g + 4) W0 W1 := by rw [hW1]; exact (Below.refl _ _).alloc (by omega) _
  obtain ⟨W2, hput, hm2, hg2⟩ := hm1.put (x := (0, 0)) (by unfold inQ; simp) (o := ((0, 0), 0)) inF_zero (by omega)
  have hput : (Instr.mapUpdate 71 (.map (some (g + 4))) (.agg #[.int .i64 0, .int .i64 0]) (.agg #[.int .i64 0, .int .i64 0, .int .i64 0])).run Tryz.prog W1 = .ok () W2 := hput
  have hs1 : W1.heap.size = g + 5 := by rw [hW1, World.size_alloc, hs0]
  have hb2 : Below (g + 4) W0 W2 := hb1.grown hg2 (by omega) (fun k e => by cases e; omega)
  have hz2 := hg2.size
  have hmk := @run_makeMap Tryz.prog
  have HB0 := Lib.hid hb0; have HG := Lib.hid hg; have HS0 := Lib.hid hs0; have HKA := Lib.hid hka; have HKB := Lib.hid hkb; have HKX := Lib.hid hkx; have HKZ := Lib.hid hkz; have HM2 := Lib.hid hm2; have HB2 := Lib.hid hb2
  have H1 := Lib.hid hR; have H2 := Lib.hid hM; have H3 := Lib.hid hR'; have H4 := Lib.hid hM'; have H5 := Lib.hid hX; have H6 := Lib.hid hY; have HAL := Lib.hid hA; have HK' := Lib.hid hK; have HXL := Lib.hid hXl; have HC := Lib.hid hC; have HC' := Lib.hid hC'; have HXP := Lib.hid hXp; have HONE := Lib.hid hone
  have HOK := Lib.hid hok; have HOK' := Lib.hid hok'; have HL := Lib.hid hl; have HL' := Lib.hid hl'; have HCALL := Lib.hid hcall
  have k0 := hkz.cell (i := 0) rfl
  have k1 := hkz.cell (i := 1) rfl
  have z0 := (hb2.cell (p := ⟨g + 3, 0, none⟩) (by show g + 3 < g + 4; omega)).trans k0
  have z1 := (hb2.cell (p := ⟨g + 3, 1, none⟩) (by show g + 3 < g + 4; omega)).trans k1
  unfold maxLen at hc1 hc2 hc3 hc4 hc5 hc6
  clear hb0 hka hkb hkx hkz hm1 hb1 hm2 hg2 hb2 hR hM hR' hM' hX hY hA hK hXl hC hC' hXp hone hok hok' hl hl' hcall
  rw [hW1, hW0] at hput
  rw [hW0] at k0 k1
  go_enter Tryz.func15, Tryz.ntmps15
  go_wp2_with fail
  have hBg : B ≤ g := by omega
  clear hput hmk k0 k1 hW0 hW1 hg
  obtain ⟨bm, hbm⟩ : ∃ bm, bm = g + 1 + 1 + 1 + 1 := ⟨_, rfl⟩
  rw [← hbm]
  obtain ⟨W3, hW3⟩ : ∃ W3, W3 = W2.alloc (.cells #[.int .i64 0, .int .i64 0] 68) := ⟨_, rfl⟩
  obtain ⟨st, hst⟩ : ∃ st, st = stP la lb := ⟨_, rfl⟩
  obtain ⟨ps, hps⟩ : ∃ ps, ps = X.filterMap fpt := ⟨_, rfl⟩
  have HST := Lib.hid hst; have HPS := Lib.hid hps
  have HBD : Hid (∀ j, OkN n n' (stN st ps j)) := Lib.hid (fun j => by
    rw [hst]
    exact OkN.st (fun s p => by rw [← HL.out, ← HL'.out]; exact stP_le HOK.out HOK'.out s p) ps j)
  have hsq : (n + 1) * (n' + 1) ≤ 225 := Nat.le_trans (Nat.mul_le_mul (show n + 1 ≤ 15 by omega) (show n' + 1 ≤ 15 by omega)) (by decide)
  have HSQ := Lib.hid hsq
  have hb3 : Below W2.heap.size W2 W3 := by rw [hW3]; exact (Below.refl _ _).alloc (Nat.le_refl _) _
  have hk3 : Blk W3 W2.heap.size 68 [.int .i64 0, .int .i64 0] := by rw [hW3]; exact Blk.new W2 _ _
  have hW2s : g + 5 ≤ W2.heap.size := by omega
  have HSQ0 : Hid (Sq W0 W3 (g + 4) bm (.slice (some ⟨W2.heap.size, 0, none⟩) 1 1) (stN st ps 0) (fun x => if x = (0, 0) then some ((0, 0), 0) else none)) := Lib.hid ⟨HB2.out.trans (hb3.mono (by omega)), ⟨rfl, .inr ⟨W2.heap.size, 1, #[.int .i64 0, .int .i64 0], rfl, by omega, hk3, Nat.le_refl _, by unfold maxLen; decide, rfl, rfl⟩⟩, by rw [hbm]; exact HM2.out.ext hb3, by omega, by have := hb3.size; omega⟩
  rw [← hW3]
  have HBM := Lib.hid hbm
  clear hst hps hsq hb3 hk3 hW3 z0 z1 hbm
  go_loopw [12, 13] (fun v i wr => ∃ (j : Nat) (sn : Nat × Nat → Option Fr), i = .int .i64 (j : Int) ∧ Hid (Sq W0 wr (g + 4) bm v (stN st ps j) sn) ∧ Hid (TrI (stN st ps j) sn) ∧ Hid (SrI st ps hit j)) (fun _ i _ => 226 - (intOf i).toNat)
  case atStart => exact ⟨0, _, rfl, HSQ0.out, TrI.start, SrI.start _ _ _⟩
  case round =>
    as_aux_lemma =>
      clear HSQ0 HM2
      obtain ⟨j, sn, rfl, HQ, HTR, HSR⟩ := hrel
      obtain ⟨T, hT⟩ : ∃ T, T = stN st ps j := ⟨_, rfl⟩
      have hokT := HBD.out j
      rw [← hT] at HQ HTR hokT
      have hTl : T.length ≤ 225 := Nat.le_trans hokT.len HSQ.out
      have HTE := Lib.hid hT
      have h0 : 0 < T.length := by
        have := (List.getElem?_eq_some_iff.1 HTR.out.r).1
        omega
      obtain ⟨bo, co, rfl, ho1, ho2, ho3, ho4, hoc⟩ := HQ.out.at_ h0
      unfold maxLen at ho2
      have HOC := Lib.hid hoc; have HOT := Lib.hid hokT
      clear hoc hT hokT h0
      by_cases hlt : j < T.length
      · as_aux_lemma =>
          have d0 : decide (j < T.length) = true := decide_eq_true hlt
          have hnd := List.getElem?_eq_getElem hlt
          have hbd := HOT.out.bd _ (List.getElem_mem hlt)
          have hway := stN_way st ps j _ (by rw [← HTE.out]; exact List.getElem_mem hlt)
          have HNX := Lib.hid (fun (e : hit (T[j]'hlt).1 = false) => HSR.out.next (n := T[j]'hlt) (by rw [← HTE.out]; exact hnd) e)
          have HYES := Lib.hid (fun (e : hit (T[j]'hlt).1 = true) => HSR.out.yes (n := T[j]'hlt) (by rw [← HTE.out]; exact hnd) e)
          obtain ⟨c0, c1⟩ := HOC.out j _ hnd
          obtain ⟨nd, hnde⟩ : ∃ nd, nd = T[j] := ⟨_, rfl⟩
          rw [← hnde] at hnd hbd hway HNX HYES c0 c1
          have HND := Lib.hid hnd
          obtain ⟨⟨x, y⟩, wy⟩ := nd
          simp only at c0 c1 hbd hway
          obtain ⟨hxn, hyn⟩ := hbd
          obtain ⟨w1, hw1⟩ : ∃ w1, w1 = wr.alloc (.cells #[.int .i64 (x : Int), .int .i64 (y : Int)] 68) := ⟨_, rfl⟩
          obtain ⟨ga, hga⟩ : ∃ ga, wr.heap.size = ga := ⟨_, rfl⟩
          have hb1 : Below ga wr w1 := by rw [hw1, ← hga]; exact (Below.refl _ _).alloc (Nat.le_refl _) _
          have hk1 : Blk w1 ga 68 [.int .i64 (x : Int), .int .i64 (y : Int)] := by rw [hw1, ← hga]; exact Blk.new wr _ _
          have hs1 : w1.heap.size = ga + 1 := by rw [hw1, ← hga]; simp
          have hle := HQ.out.le
          have HQ1 := Lib.hid (HQ.out.ext (by rw [hga]; exact hb1))
          have HK1 := Lib.hid hk1; have HS1 := Lib.hid hs1; have HGA := Lib.hid hga
          have hgga : g + 4 ≤ ga := by omega
          have HVN : Hid ((Value.slice (some ⟨bo, 0, none⟩) T.length co).ownBlock ≠ some ga) := Lib.hid (fun e => by simp only [Value.ownBlock, Option.some.injEq] at e; omega)
          have hbw1 := HQ1.out.b
          have ka := HKA.out.below hbw1 (show g < g + 4 by omega)
          have kb := HKB.out.below hbw1 (show g + 1 < g + 4 by omega)
          have hB1 : Below B w w1 := (HB0.out.trans (hbw1.mono (by omega))).mono (by omega)
          obtain ⟨b1, o1, e1, hb1', hr1⟩ := (H1.out.below hB1).at_ (by rw [fulR_len]; omega)
          obtain ⟨b2, o2, e2, hb2', hr2⟩ := (H3.out.below hB1).at_ (by rw [fulR_len]; omega)
          have r1 := hr1 x (by rw [fulR_len, HL.out]; omega)
          have r2 := hr2 y (by rw [fulR_len, HL'.out]; omega)
          rw [fulR_nth (by rw [HL.out]; exact hxn)] at r1
          rw [fulR_nth (by rw [HL'.out]; exact hyn)] at r2
          subst e1 e2
          have HCON : Hid (∀ X : WB w1.heap.size w1, Calls Tryz.prog fid (#[.int .i64 (rul la x), .int .i64 (rul lb y)] ++ caps) X.val fun e w' => e = .returned (.bool (hit (x, y))) ∧ Below X.val.heap.size X.val w') := Lib.hid (fun X => HCALL.out X.val (hB1.trans (X.bel.mono (by omega))) x y (by rw [HL.out]; exact hxn) (by rw [HL'.out]; exact hyn))
          obtain ⟨hv, hhv⟩ : ∃ hv, hv = hit (x, y) := ⟨_, rfl⟩
          rw [← hhv] at HCON
          have HHV := Lib.hid hhv
          generalize rul la x = ra at *
          generalize rul lb y = rb at *
          have x0 : ∀ X : WB w1.heap.size w1, X.val.cell? ⟨g, 1, none⟩ = some (.slice (some ⟨b1, o1, none⟩) (n + 1) cr) := fun X => (X.bel.cell (p := ⟨g, 1, none⟩) (by show g < _; omega)).trans (ka.cell (i := 1) rfl)
          have x1 : ∀ X : WB w1.heap.size w1, X.val.cell? ⟨g + 1, 1, none⟩ = some (.slice (some ⟨b2, o2, none⟩) (n' + 1) cr') := fun X => (X.bel.cell (p := ⟨g + 1, 1, none⟩) (by show g + 1 < _; omega)).trans (kb.cell (i := 1) rfl)
          have x2 : ∀ X : WB w1.heap.size w1, X.val.cell? ⟨ga, 0, none⟩ = some (.int .i64 (x : Int)) := fun X => (X.bel.cell (p := ⟨ga, 0, none⟩) (by show ga < _; omega)).trans (hk1.cell (i := 0) rfl)
          have x3 : ∀ X : WB w1.heap.size w1, X.val.cell? ⟨ga, 1, none⟩ = some (.int .i64 (y : Int)) := fun X => (X.bel.cell (p := ⟨ga, 1, none⟩) (by show ga < _; omega)).trans (hk1.cell (i := 1) rfl)
          have x4 : ∀ X : WB w1.heap.size w1, X.val.cell? ⟨b1, o1 + x, none⟩ = some (.int .i64 ra) := fun X => (X.bel.cell (p := ⟨b1, o1 + x, none⟩) (by show b1 < _; omega)).trans r1
          have x5 : ∀ X : WB w1.heap.size w1, X.val.cell? ⟨b2, o2 + y, none⟩ = some (.int .i64 rb) := fun X => (X.bel.cell (p := ⟨b2, o2 + y, none⟩) (by show b2 < _; omega)).trans r2
          have hxn2 : x < n + 1 := by omega
          have hyn2 : y < n' + 1 := by omega
          have hGA2 := hga
          clear hnd hnde hb1 hk1 hs1 hga hbw1 ka kb hB1 hr1 hr2 r1 r2 hhv HOC HCALL
          go_wp2_with fail
          rw [← hw1]
          clear hw1 hGA2
          refine wp_region_cls (B := w1.heap.size) (w0 := w1) (by kernel_rfl) (by kernel_rfl) (Below.refl _ _) ?_
          repeat (first | go_big_quiet_skip | (go_big_quiet_want; go_big_quiet_op; go_big_quiet_on))
          go_big_quiet_want
          go_big_quiet_op
          refine ⟨.bool hv, fun X => X.call (Nat.le_refl _) (HCON.out X), ?_⟩
          go_big_quiet_on
          repeat (first | go_big_quiet_skip | (go_big_quiet_want; go_big_quiet_op; go_big_quiet_on))
          refine wpQuiet_nil ?_
          intro X
          obtain ⟨w2, hw2⟩ : ∃ w2, w2 = X.val := ⟨_, rfl⟩
          have hb2 := X.bel
          rw [← hw2] at hb2 ⊢
          clear x0 x1 x2 x3 x4 x5 hw2 X HCON
          have hz2' := hb2.size
          have HQ2 := Lib.hid (HQ1.out.ext hb2)
          have HK2 := Lib.hid (HK1.out.below' hb2)
          have HSZ2 : Hid (w2.heap.size > ga) := Lib.hid (by have := HS1.out; omega)
          have y0 := HK2.out.cell (i := 0) rfl
          have y1 := HK2.out.cell (i := 1) rfl
          clear hb2 HQ HQ1 HK1
          cases hv with
          | true =>
            as_aux_lemma =>
              have HANS : Hid (AnsN (stP la lb) (X.filterMap fpt) hit (some wy)) := Lib.hid (by rw [← HST.out, ← HPS.out]; exact HYES.out HHV.out.symm)
              go_wp2_with fail
              obtain ⟨zz, hzz⟩ : ∃ zz, w2.heap.size = zz := ⟨_, rfl⟩
              obtain ⟨w3, hw3⟩ : ∃ w3, w3 = w2.alloc (.cells #[.int .i64 (x : Int), .int .i64 (y : Int)] 68) := ⟨_, rfl⟩
              have hb3 : Below zz w2 w3 := by rw [hw3, ← hzz]; exact (Below.refl _ _).alloc (Nat.le_refl _) _
              have hk3 : Blk w3 zz 68 [.int .i64 (x : Int), .int .i64 (y : Int)] := by rw [hw3, ← hzz]; exact Blk.new w2 _ _
              have HB3 := Lib.hid hb3; have HK3 := Lib.hid hk3; have HZZ := Lib.hid hzz
              rw [hzz, ← hw3]
              have hgz : ga < zz := by have := HSZ2.out; omega
              have HWS := Lib.hid (WayI.start HND.out)
              clear hw3 hzz hb3 hk3 y0 y1
              go_loopg [15, 16] j (fun gk v s16 wr => ∃ (a t1 t2 gp : Nat) (l : List Int), s16 = .pointer (some ⟨gp, 0, none⟩) ∧ gk = a ∧ a ≤ j ∧ zz ≤ gp ∧ Hid (l.length + a ≤ j) ∧ Hid (WayI T ((x, y), wy) a (t1, t2) l) ∧ Hid (Blk wr gp 68 [.int .i64 (t1 : Int), .int .i64 (t2 : Int)]) ∧ Hid (wr.ownsRow zz 3 1 v l.length (iv l)) ∧ Hid (Below zz w2 wr))
              case atStart => exact ⟨j, x, y, zz, [], rfl, rfl, Nat.le_refl _, Nat.le_refl _, Lib.hid (by simp), HWS.out, HK3.out, World.ownsRow_nil _ _ _ _, HB3.out⟩
              case round =>
                as_aux_lemma =>
                  clear HB3 HK3 HWS
                  obtain ⟨a, t1, t2, gp, l, rfl, hgk, haj, hzp, HLE, HWY, HK, HOW, HBW⟩ := hrel
                  have HGK := Lib.hid hgk
                  have hzw := HBW.out.size
                  have hq := HQ2.out.m.ext (by rw [HZZ.out]; exact HBW.out)
                  have hkz := HKZ.out.below (HQ2.out.b.trans (HBW.out.mono (by omega))) (show g + 3 < g + 4 by omega)
                  have z0 := hkz.cell (i := 0) rfl
                  have z1 := hkz.cell (i := 1) rfl
                  have e0 := HK.out.cell (i := 0) rfl
                  have e1 := HK.out.cell (i := 1) rfl
                  have HQM := Lib.hid hq
                  clear hgk hq hkz
                  by_cases hq0 : (t1, t2) = (0, 0)
                  · as_aux_lemma =>
                      have ht1 : t1 = 0 := congrArg Prod.fst hq0
                      have ht2 : t2 = 0 := congrArg Prod.snd hq0
                      have c1 : ((t1 : Int) == 0) = true := by simp [ht1]
                      have c2 : ((t2 : Int) == 0) = true := by simp [ht2]
                      have HDN : Hid (l.reverse = wy) := Lib.hid (by
                        have h1 := HWY.out
                        rw [hq0] at h1
                        exact h1.done HTR.out (HOT.out.nd))
                      have hll : l.length ≤ 225 := by have := HLE.out; omega
                      obtain ⟨A5, c5, rfl, hrev⟩ := rev_own HOW.out (by omega)
                      rw [HDN.out] at hrev
                      have HREV := Lib.hid hrev
                      have hwl : l.length = wy.length := by rw [← HDN.out, List.length_reverse]
                      have HWL := Lib.hid hwl
                      clear hq0 ht1 ht2 hrev hwl
                      go_wp2_with fail
                      refine HREV.out.mono ?_
                      rintro e w5 ⟨rfl, hr5, hb5⟩
                      have HTX := Lib.hid (text_any A5 c5 l.length wy w5 w5.heap.size hr5 HWL.out.symm (by omega) (Nat.le_refl _))
                      have HB5 : Hid (Below g w w5) := Lib.hid (((HB0.out.trans (HQ2.out.b.mono (by omega))).trans (HBW.out.mono (by omega))).trans (hb5.mono (by omega)))
                      have hz5 := HB5.out.size
                      have hgw := HG.out
                      clear hr5 hb5 HREV
                      go_wp2_with fail
                      refine HTX.out.mono ?_
                      rintro e w6 ⟨rfl, hb6⟩
                      have HB6 : Hid (Below g w w6) := Lib.hid (HB5.out.trans (hb6.mono (by omega)))
                      clear hb6 HTX
                      go_wp2_with fail
                      go_ret2
                      exact ⟨some wy, HANS.out, rfl, by rw [hgw]; exact HB6.out⟩
                  · as_aux_lemma =>
                      have hst := HWY.out.step HTR.out hq0
                      obtain ⟨a', t', p, ha', hsn, hwy'⟩ := hst
                      obtain ⟨u1, u2⟩ := t'
                      have hta := HWY.out
                      obtain ⟨mm, hmm, htm, -⟩ := hta
                      have hin := HOT.out.bd _ (List.mem_of_getElem? hmm)
                      rw [← htm] at hin
                      have hinQ : inQ (t1, t2) := ⟨by have := hin.1; show t1 ≤ 1000; simp only at this; omega, by have := hin.2; show t2 ≤ 1000; simp only at this; omega⟩
                      have hlk := HQM.out.look1 hinQ
                      rw [hsn] at hlk
                      simp only [Option.getD_some] at hlk
                      change (Instr.lookup 71 (.map (some bm)) (.agg #[.int .i64 (t1 : Int), .int .i64 (t2 : Int)]) false).run Tryz.prog wr = .ok (.agg #[.int .i64 (u1 : Int), .int .i64 (u2 : Int), .int .i64 p]) wr at hlk
                      have HWY' := Lib.hid hwy'
                      have HSN := Lib.hid hsn; have HIQ := Lib.hid hinQ
                      have hgpz : gp < wr.heap.size := HK.out.lt
                      have hll : l.length ≤ 225 := by have := HLE.out; omega
                      clear hsn hwy' hmm htm hin hinQ
                      have f0 := fld0
                      have f1 := fld1
                      have HIV : Hid (iv (l ++ [p]) = iv l ++ [.int .i64 p]) := Lib.hid (by unfold iv; rw [List.map_append]; rfl)
                      by_cases ht1 : t1 = 0
                      · have c1 : ((t1 : Int) == 0) = true := by simp [ht1]
                        have c2 : ((t2 : Int) == 0) = false := by
                          have : t2 ≠ 0 := fun e => hq0 (by rw [ht1, e])
                          simp; omega
                        clear hq0 ht1
                        go_wp2_with (at_builtin; refine wpList_app elIn rfl (.tmp 62) (.tmp 67) rfl zz _ l.length 1 (iv l) [.int .i64 p] rfl HOW.out rfl rfl (by simp [Value.oneCell']) (by omega) (by omega) (by omega) ?_; intro v5 w5 hown5 hg5 hat5; have HOW5 := Lib.hid hown5; have HB5 := Lib.hid (HBW.out.grown hg5 (by omega) (own_base HOW.out)); have hk5 := HK.out.grown hg5 (fun e => blk_own_ne HK.out HOW.out (by decide) e.symm); have e0 := hk5.cell (i := 0) rfl; have e1 := hk5.cell (i := 1) rfl; have hq5 := (HQM.out.kept hg5 (fun e => HQM.out.cells HOW.out e.symm)).ext ((Below.refl _ _).alloc (Nat.le_refl _) (.cells #[.int .i64 (t1 : Int), .int .i64 (t2 : Int)] 68)); have hlk := hq5.look1 HIQ.out; rw [HSN.out] at hlk; simp only [Option.getD_some] at hlk; change (Instr.lookup 71 (.map (some bm)) (.agg #[.int .i64 (t1 : Int), .int .i64 (t2 : Int)]) false).run Tryz.prog (w5.alloc (.cells #[.int .i64 (t1 : Int), .int .i64 (t2 : Int)] 68)) = .ok (.agg #[.int .i64 (u1 : Int), .int .i64 (u2 : Int), .int .i64 p]) (w5.alloc (.cells #[.int .i64 (t1 : Int), .int .i64 (t2 : Int)] 68)) at hlk; clear hown5 hg5 hat5 hk5 hq5)
                        have hz5 : zz ≤ w5.heap.size := by rw [← HZZ.out]; exact HB5.out.size
                        go_roundg a'
                        case rel =>
                          refine ⟨a', u1, u2, w5.heap.size, l ++ [p], rfl, rfl, by omega, by omega, Lib.hid ?_, HWY'.out, Blk.new w5 _ _, Lib.hid ?_, HB5.out.alloc (by omega) _⟩
                          · have := HLE.out
                            rw [List.length_append, List.length_singleton]; omega
                          · rw [HIV.out, List.length_append, List.length_singleton]
                            exact World.ownsRow.alloc HOW5.out _
                        case measure => rw [HGK.out]; exact ha'
                      · have c1 : ((t1 : Int) == 0) = false := by simp; omega
                        clear hq0 ht1
                        go_wp2_with (at_builtin; refine wpList_app elIn rfl (.tmp 62) (.tmp 67) rfl zz _ l.length 1 (iv l) [.int .i64 p] rfl HOW.out rfl rfl (by simp [Value.oneCell']) (by omega) (by omega) (by omega) ?_; intro v5 w5 hown5 hg5 hat5; have HOW5 := Lib.hid hown5; have HB5 := Lib.hid (HBW.out.grown hg5 (by omega) (own_base HOW.out)); have hk5 := HK.out.grown hg5 (fun e => blk_own_ne HK.out HOW.out (by decide) e.symm); have e0 := hk5.cell (i := 0) rfl; have e1 := hk5.cell (i := 1) rfl; have hq5 := (HQM.out.kept hg5 (fun e => HQM.out.cells HOW.out e.symm)).ext ((Below.refl _ _).alloc (Nat.le_refl _) (.cells #[.int .i64 (t1 : Int), .int .i64 (t2 : Int)] 68)); have hlk := hq5.look1 HIQ.out; rw [HSN.out] at hlk; simp only [Option.getD_some] at hlk; change (Instr.lookup 71 (.map (some bm)) (.agg #[.int .i64 (t1 : Int), .int .i64 (t2 : Int)]) false).run Tryz.prog (w5.alloc (.cells #[.int .i64 (t1 : Int), .int .i64 (t2 : Int)] 68)) = .ok (.agg #[.int .i64 (u1 : Int), .int .i64 (u2 : Int), .int .i64 p]) (w5.alloc (.cells #[.int .i64 (t1 : Int), .int .i64 (t2 : Int)] 68)) at hlk; clear hown5 hg5 hat5 hk5 hq5)
                        have hz5 : zz ≤ w5.heap.size := by rw [← HZZ.out]; exact HB5.out.size
                        go_roundg a'
                        case rel =>
                          refine ⟨a', u1, u2, w5.heap.size, l ++ [p], rfl, rfl, by omega, by omega, Lib.hid ?_, HWY'.out, Blk.new w5 _ _, Lib.hid ?_, HB5.out.alloc (by omega) _⟩
                          · have := HLE.out
                            rw [List.length_append, List.length_singleton]; omega
                          · rw [HIV.out, List.length_append, List.length_singleton]
                            exact World.ownsRow.alloc HOW5.out _
                        case measure => rw [HGK.out]; exact ha'
          | false =>
            as_aux_lemma =>
              have HNX2 := Lib.hid (HNX.out HHV.out.symm)
              have kx0 := (HKX.out.below HQ2.out.b (show g + 2 < g + 4 by omega)).cell (i := 0) rfl
              clear y0 y1
              obtain ⟨nd, hnde⟩ : ∃ nd : Nd, nd = ((x, y), wy) := ⟨_, rfl⟩
              have HNE := Lib.hid hnde
              have HND' : Hid (T[j]? = some nd) := Lib.hid (by rw [hnde]; exact HND.out)
              clear hnde
              obtain ⟨wo, rfl⟩ : ∃ wo : World, wo = w2 := ⟨_, rfl⟩
              go_wp2_with fail
              clear kx0
              go_loopg [12, 77] P (fun gk v i wr => ∃ (k : Nat) (sn : Nat × Nat → Option Fr), i = .int .i64 (k : Int) ∧ k ≤ P ∧ gk = P - k ∧ Hid (Sq W0 wr (g + 4) bm v (rowT st nd X k T) sn) ∧ Hid (TrI (rowT st nd X k T) sn) ∧ Hid (Blk wr ga 68 [.int .i64 (x : Int), .int .i64 (y : Int)]) ∧ Hid (v.ownBlock ≠ some ga))
              case atStart => exact ⟨0, sn, rfl, Nat.zero_le _, rfl, HQ2.out, HTR.out, HK2.out, HVN.out⟩
              case round =>
                as_aux_lemma =>
                  clear HQ2 HTR HK2 HVN
                  obtain ⟨k, sn, rfl, hk, hgk, HQ, HTR, HK, HVN⟩ := hrel
                  have HGK := Lib.hid hgk
                  clear hgk
                  obtain ⟨T', hT'⟩ : ∃ T', T' = rowT st nd X k T := ⟨_, rfl⟩
                  rw [← hT'] at HQ HTR
                  have HTE' := Lib.hid hT'
                  have hok' : OkN n n' T' := by
                    rw [hT', HST.out]
                    exact OkN.rowT (fun s p => by rw [← HL.out, ← HL'.out]; exact stP_le HOK.out HOK'.out s p) nd HOT.out
                  have hTl' : T'.length ≤ 225 := Nat.le_trans hok'.len HSQ.out
                  have HOT' := Lib.hid hok'
                  have hle := HQ.out.le
                  have hgal : ga < wr.heap.size := HK.out.lt
                  clear hT' hok'
                  by_cases hkP : k < P
                  · as_aux_lemma =>
                      have d1 : decide (k < P) = true := decide_eq_true hkP
                      have hkX : k < X.length := by rw [HXL.out]; exact hkP
                      have hbw : Below (g + 4) W0 wr := HQ.out.b
                      have hwB : Below B w wr := (HB0.out.trans (hbw.mono (by omega))).mono hBg
                      obtain ⟨xb, xo, e1, hxb, hxc⟩ := (H5.out.below hwB).at_ (by omega)
                      obtain ⟨l0, l1⟩ := hxc k hkX
                      subst e1
                      have hrm : nthR X k ∈ X := by rw [nthR_get hkX]; exact List.getElem_mem _
                      have hXsm : X[k]? = some (nthR X k) := by rw [nthR_get hkX]; exact List.getElem?_eq_getElem hkX
                      obtain ⟨hp1, hp2⟩ := HXP.out _ hrm
                      have hone := HONE.out _ hrm
                      have hac := HAL.out.cls k hkX
                      obtain ⟨yb, yo, e2, hyb, hyc⟩ := (H6.out.below hwB).at_ (by rw [HAL.out.len]; omega)
                      have yk := hyc k (by rw [HAL.out.len]; exact hkX)
                      rw [hac.1] at yk
                      obtain ⟨cl, hcle⟩ : ∃ cl, cl = clsOf C (nthR X k).1 := ⟨_, rfl⟩
                      rw [← hcle] at yk hac hone
                      have hclK : cl < K := by rw [← HK'.out]; exact hac.2
                      obtain ⟨⟨lo, hi⟩, hr⟩ : ∃ r : Rg, r = nthR X k := ⟨_, rfl⟩
                      rw [← hr] at l0 l1 hXsm hp1 hp2 hone
                      simp only at l0 l1 hp1 hp2 hone
                      obtain ⟨pf, hpf⟩ : ∃ pf, pf = if 55296 ≤ lo ∧ lo ≤ 57343 then (57344 : Int) else lo := ⟨_, rfl⟩
                      have hfpt : fpt (lo, hi) = if pf ≤ hi then some pf else none := by unfold fpt; simp only; rw [← hpf]
                      unfold isP at hp1 hp2
                      obtain ⟨hp3, hp4⟩ := hp1
                      obtain ⟨hp5, hp6⟩ := hp2
                      have hlopf : lo ≤ pf := by rw [hpf]; split <;> omega
                      have hpfb : 0 ≤ pf ∧ pf ≤ 1114111 := by rw [hpf]; split <;> omega
                      obtain ⟨hpf0, hpf1⟩ := hpfb
                      have HPF := Lib.hid hpf; have HFPT := Lib.hid hfpt; have HXS := Lib.hid hXsm; have HONE' := Lib.hid hone; have HCL := Lib.hid hcle
                      obtain ⟨w1, hw1⟩ : ∃ w1, w1 = wr.alloc (.cells #[.int .i64 lo, .int .i64 hi] 62) := ⟨_, rfl⟩
                      obtain ⟨gr, hgr⟩ : ∃ gr, wr.heap.size = gr := ⟨_, rfl⟩
                      have hb1 : Below gr wr w1 := by rw [hw1, ← hgr]; exact (Below.refl _ _).alloc (Nat.le_refl _) _
                      have hk1 : Blk w1 gr 62 [.int .i64 lo, .int .i64 hi] := by rw [hw1, ← hgr]; exact Blk.new wr _ _
                      have hs1 : w1.heap.size = gr + 1 := by rw [hw1, ← hgr]; simp
                      have HQ1 := Lib.hid (HQ.out.ext (by rw [hgr]; exact hb1))
                      have HK1 := Lib.hid (HK.out.below' (by rw [hgr]; exact hb1))
                      have HR1 := Lib.hid hk1; have HS1 := Lib.hid hs1
                      have HYB := Lib.hid yk
                      have HYB2 := Lib.hid hyb
                      have HB1 := Lib.hid hb1
                      subst e2
                      have h0l := hk1.cell (i := 0) rfl
                      have h1l := hk1.cell (i := 1) rfl
                      have hggr : g + 4 ≤ gr := by omega
                      clear hkX hbw hwB hxc hrm hXsm hone hac hyc yk hcle hr hpf hfpt hb1 hk1 hs1 HQ HK hxb hyb
                      have h0A := h0l; have h1A := h1l
                      rw [hw1] at h0A h1A
                      go_upto_region 22 with (fail)
                      rw [← hw1]
                      clear h0A h1A
                      clear hw1 hgr l0 l1
                      obtain ⟨hf, hhf⟩ : ∃ hf, hf = (decide (55296 ≤ lo) && decide (lo ≤ 57343)) := ⟨_, rfl⟩
                      have HHF := Lib.hid hhf
                      clear hhf
                      go_cut [77, 89] from 77 to 138 (fun s77 c wx => s77 = .int .i64 (k : Int) ∧ c = .bool hf ∧ wx = w1)
                      case first =>
                        as_aux_lemma =>
                          by_cases q1 : 55296 ≤ lo
                          · by_cases q2 : lo ≤ 57343
                            · have e1 : decide (55296 ≤ lo) = true := decide_eq_true q1
                              have e2 : decide (lo ≤ 57343) = true := decide_eq_true q2
                              have HV : Hid (hf = true) := Lib.hid (by rw [HHF.out, e1, e2]; rfl)
                              go_wp2_with fail
                              go_meet
                              case rel => exact ⟨rfl, by rw [HV.out], rfl⟩
                            · have e1 : decide (55296 ≤ lo) = true := decide_eq_true q1
                              have e2 : decide (lo ≤ 57343) = false := decide_eq_false q2
                              have HV : Hid (hf = false) := Lib.hid (by rw [HHF.out, e1, e2]; rfl)
                              go_wp2_with fail
                              go_meet
                              case rel => exact ⟨rfl, by rw [HV.out], rfl⟩
                          · have e1 : decide (55296 ≤ lo) = false := decide_eq_false q1
                            have HV : Hid (hf = false) := Lib.hid (by rw [HHF.out, e1]; rfl)
                            go_wp2_with fail
                            go_meet
                            case rel => exact ⟨rfl, by rw [HV.out], rfl⟩
                      case rest =>
                        obtain ⟨rfl, rfl, rfl⟩ := hcut
                        go_upto_if 89 with (fail)
                        go_cut [19, 77] from 77 to 138 (fun s19 s77 wx => s19 = .int .i64 pf ∧ s77 = .int .i64 (k : Int) ∧ wx = wc)
                        case first =>
                          as_aux_lemma =>
                            cases hf with
                            | true =>
                              have HV : Hid (pf = 57344) := Lib.hid (by
                                have := HHF.out
                                simp only [Eq.comm (a := true), Bool.and_eq_true, decide_eq_true_eq] at this
                                rw [HPF.out, if_pos this])
                              go_wp2_with fail
                              go_meet
                              case rel => exact ⟨by rw [HV.out], rfl, rfl⟩
                            | false =>
                              have HV : Hid (pf = lo) := Lib.hid (by
                                rw [HPF.out, if_neg]
                                intro q
                                have := HHF.out
                                rw [decide_eq_true q.1, decide_eq_true q.2] at this
                                cases this)
                              go_wp2_with fail
                              go_meet
                              case rel => exact ⟨by rw [HV.out], rfl, rfl⟩
                        case rest =>
                          obtain ⟨rfl, rfl, rfl⟩ := hcut
                          have hgr1 := HR1.out.lt
                          by_cases hph : pf ≤ hi
                          · as_aux_lemma =>
                              have d2 : decide (hi < pf) = false := decide_eq_false (by omega)
                              have HSO : Hid (rowT st nd X (k + 1) T = addN st nd T' pf) := Lib.hid (by
                                rw [rowT_some HXS.out (by rw [HFPT.out, if_pos hph]), ← HTE'.out])
                              have hone := HONE'.out pf hlopf hph
                              have hisp : isP pf := ⟨hpf0, hpf1⟩
                              have hxa := HC.out.co x pf hisp
                              have hyb' := HC'.out.co y pf hisp
                              rw [hone] at hxa hyb'
                              obtain ⟨xn, hxn'⟩ : ∃ xn, xn = dlt la x pf := ⟨_, rfl⟩
                              obtain ⟨yn, hyn'⟩ : ∃ yn, yn = dlt lb y pf := ⟨_, rfl⟩
                              rw [← hxn'] at hxa
                              rw [← hyn'] at hyb'
                              have HSTN : Hid (st nd.1 pf = (xn, yn)) := Lib.hid (by rw [HNE.out, HST.out]; unfold stP; rw [hxn', hyn'])
                              have hxnn : xn ≤ n := by rw [hxn', ← HL.out]; exact dlt_le HOK.out _ _
                              have hynn : yn ≤ n' := by rw [hyn', ← HL'.out]; exact dlt_le HOK'.out _ _
                              have hbw : Below (g + 4) W0 wc := HQ1.out.b
                              have hwB : Below B w wc := (HB0.out.trans (hbw.mono (by omega))).mono hBg
                              have hfa := full_FuP HOK.out C
                              have hfb := full_FuP HOK'.out C
                              have hma := hfa.m x (by rw [HL.out]; omega)
                              have hmb := hfb.m y (by rw [HL'.out]; omega)
                              obtain ⟨rb, ro, rb', ro', rc', e7, hrb, hrb', r1, -, -, r2⟩ := (H2.out.below hwB).at_ (k := x) (c := cl) (by rw [hfa.ml, HL.out]; omega) (by rw [hma.1, HK'.out]; exact hclK)
                              obtain ⟨sb, so, sb', so', sc', e8, hsb, hsb', s1, -, -, s2⟩ := (H4.out.below hwB).at_ (k := y) (c := cl) (by rw [hfb.ml, HL'.out]; omega) (by rw [hmb.1, HK'.out]; exact hclK)
                              rw [hma.2 cl (by rw [HK'.out]; exact hclK), ← hxa] at r2
                              rw [hmb.2 cl (by rw [HK'.out]; exact hclK), ← hyb'] at s2
                              rw [hma.1, HK'.out] at r1
                              rw [hmb.1, HK'.out] at s1
                              subst e7 e8
                              have ka := HKA.out.below hbw (show g < g + 4 by omega)
                              have kb := HKB.out.below hbw (show g + 1 < g + 4 by omega)
                              have kx := HKX.out.below hbw (show g + 2 < g + 4 by omega)
                              have yk := (HB1.out.cell (p := ⟨yb, yo + k, none⟩) (by have := HYB2.out; show yb < gr; omega)).trans HYB.out
                              have hgac := HK1.out.lt
                              have hgg4 : g + 4 ≤ wc.heap.size := HQ1.out.le
                              obtain ⟨wd, hwd⟩ : ∃ wd, wd = wc.drew := ⟨_, rfl⟩
                              have hbd : Below wc.heap.size wc wd := by rw [hwd]; exact (Below.refl _ _).drew
                              have hsd : wd.heap.size = wc.heap.size := by rw [hwd]; rfl
                              have hyb9 := HYB2.out
                              have x0 : ∀ X : WB wd.heap.size wd, X.val.cell? ⟨g, 2, none⟩ = some (.slice (some ⟨rb, ro, none⟩) (n + 1) cm) := fun X => (X.bel.cell (p := ⟨g, 2, none⟩) (by show g < _; omega)).trans ((ka.below' hbd).cell (i := 2) rfl)
                              have x1 : ∀ X : WB wd.heap.size wd, X.val.cell? ⟨g + 1, 2, none⟩ = some (.slice (some ⟨sb, so, none⟩) (n' + 1) cm') := fun X => (X.bel.cell (p := ⟨g + 1, 2, none⟩) (by show g + 1 < _; omega)).trans ((kb.below' hbd).cell (i := 2) rfl)
                              have x2 : ∀ X : WB wd.heap.size wd, X.val.cell? ⟨g + 1 + 1, 1, none⟩ = some (.slice (some ⟨yb, yo, none⟩) P cy) := fun X => (X.bel.cell (p := ⟨g + 1 + 1, 1, none⟩) (by show g + 1 + 1 < _; omega)).trans ((kx.below' hbd).cell (i := 1) rfl)
                              have x3 : ∀ X : WB wd.heap.size wd, X.val.cell? ⟨ga, 0, none⟩ = some (.int .i64 (x : Int)) := fun X => (X.bel.cell (p := ⟨ga, 0, none⟩) (by show ga < _; omega)).trans ((HK1.out.below' hbd).cell (i := 0) rfl)
                              have x4 : ∀ X : WB wd.heap.size wd, X.val.cell? ⟨ga, 1, none⟩ = some (.int .i64 (y : Int)) := fun X => (X.bel.cell (p := ⟨ga, 1, none⟩) (by show ga < _; omega)).trans ((HK1.out.below' hbd).cell (i := 1) rfl)
                              have hbc : ∀ {b o : Nat} {u : Value}, b < wc.heap.size → wc.cell? ⟨b, o, none⟩ = some u → ∀ X : WB wd.heap.size wd, X.val.cell? ⟨b, o, none⟩ = some u := fun {b o u} hb hc X => (X.bel.cell (p := ⟨b, o, none⟩) (by show b < _; omega)).trans ((hbd.cell (p := ⟨b, o, none⟩) hb).trans hc)
                              have x5 := hbc (by omega) yk
                              have x6 := hbc (by omega) r1
                              have x7 := hbc (by omega) r2
                              have x8 := hbc (by omega) s1
                              have x9 := hbc (by omega) s2
                              have hxn2 : x < n + 1 := by omega
                              have hyn2 : y < n' + 1 := by omega
                              have HBD := Lib.hid hbd
                              have HXN := Lib.hid hxn'; have HYN := Lib.hid hyn'
                              clear hone hisp hxa hyb' hxn' hyn' hbw hwB hfa hfb hma hmb hrb hrb' hsb hsb' r1 r2 s1 s2 ka kb kx yk hbc hbd hyb9
                              go_wp2_with fail
                              refine wp_region_S (fun w' => ∃ X : WB wd.heap.size wd, w' = X.val) (by kernel_rfl) ?_
                              rw [← hwd]
                              clear hwd
                              show wpAnyS _ _ _ _ _ (2 + 27) _ _ _
                              refine takeS 2 0 27 (by kernel_rfl) (by kernel_rfl) (fun _ _ d _ _ h => by cases d <;> exact h) ⟨⟨_, Below.refl _ _⟩, rfl⟩ ?_
                              simp only [List.take_succ_cons, List.take_zero, List.drop_succ_cons, List.drop_zero]
                              repeat (first | go_big_quiet_skip | (go_big_quiet_want; go_big_quiet_op; go_big_quiet_on))
                              refine wpQuiet_nil ?_
                              clear x0 x1 x2 x3 x4 x5 x6 x7 x8 x9
                              refine oneS 1 27 (by kernel_rfl) (by decide) ?_
                              simp only [List.take_succ_cons, List.take_zero, List.drop_succ_cons, List.drop_zero]
                              go_wp2_with fail
                              refine ⟨⟨WB.mk _ ((Below.refl _ _).alloc (Nat.le_refl _) _), rfl⟩, ?_⟩
                              refine oneS 0 28 (by kernel_rfl) (by decide) ?_
                              simp only [List.take_succ_cons, List.take_zero, List.drop_succ_cons, List.drop_zero]
                              go_wp2_with fail
                              refine ⟨⟨WB.mk _ ((Below.refl _ _).alloc (Nat.le_refl _) _), rfl⟩, ?_⟩
                              refine endS (by kernel_rfl) ?_
                              obtain ⟨w5, hw5⟩ : ∃ w5, w5 = wd.alloc (.cells #[.int .i64 (xn : Int), .int .i64 (yn : Int)] 68) := ⟨_, rfl⟩
                              have hb5 : Below wc.heap.size wc w5 := by rw [hw5]; exact (HBD.out.trans ((Below.refl _ _).alloc (by omega) _))
                              have hk5 : Blk w5 wc.heap.size 68 [.int .i64 (xn : Int), .int .i64 (yn : Int)] := by rw [hw5, ← hsd]; exact Blk.new wd _ _
                              have hs5 : w5.heap.size = wc.heap.size + 1 := by rw [hw5, World.size_alloc, hsd]
                              have HQ5 := Lib.hid (HQ1.out.ext hb5)
                              have HKa5 := Lib.hid (HK1.out.below' hb5)
                              have HK5 := Lib.hid hk5
                              have hinQ : inQ (xn, yn) := ⟨by show xn ≤ 1000; omega, by show yn ≤ 1000; omega⟩
                              have HIQ := Lib.hid hinQ
                              have lk := HQ5.out.m.look2 hinQ
                              change (Instr.lookup 71 (.map (some bm)) (.agg #[.int .i64 (xn : Int), .int .i64 (yn : Int)]) true).run Tryz.prog w5 = _ at lk
                              have p0 := hk5.cell (i := 0) rfl
                              have p1 := hk5.cell (i := 1) rfl
                              have HS5 := Lib.hid hs5
                              have hga5 : ga < wc.heap.size := hgac
                              rw [← hw5]
                              clear hw5 hb5 hk5 hinQ HQ1 HK1 hsd hs5
                              cases hsn : sn (xn, yn) with
                              | some o =>
                                as_aux_lemma =>
                                  obtain ⟨⟨o1, o2⟩, op⟩ := o
                                  rw [hsn] at lk
                                  simp only [Option.getD_some, Option.isSome_some] at lk
                                  change _ = Result.ok (Value.tuple #[.agg #[.int .i64 (o1 : Int), .int .i64 (o2 : Int), .int .i64 op], .bool true]) w5 at lk
                                  have HN : Hid (rowT st nd X (k + 1) T = T') := Lib.hid (by
                                    rw [HSO.out, addN_yes]
                                    rw [HSTN.out, ← HTR.out.k, hsn]; rfl)
                                  have HQ6 := Lib.hid (HQ5.out.ext ((Below.refl _ _).alloc (Nat.le_refl _) (.cells #[.int .i64 (o1 : Int), .int .i64 (o2 : Int), .int .i64 op] 70)))
                                  have HK6 := Lib.hid (HKa5.out.alloc (.cells #[.int .i64 (o1 : Int), .int .i64 (o2 : Int), .int .i64 op] 70))
                                  clear hsn
                                  go_wp2_with fail
                                  go_roundg (P - (k + 1))
                                  case rel => exact ⟨k + 1, sn, by go_num, by omega, rfl, by rw [HN.out]; exact HQ6.out, by rw [HN.out]; exact HTR.out, HK6.out, HVN.out⟩
                                  case measure => rw [HGK.out]; omega
                              | none =>
                                as_aux_lemma =>
                                  rw [hsn] at lk
                                  simp only [Option.getD_none, Option.isSome_none] at lk
                                  change _ = Result.ok (Value.tuple #[.agg #[.int .i64 0, .int .i64 0, .int .i64 0], .bool false]) w5 at lk
                                  have HN : Hid (rowT st nd X (k + 1) T = T' ++ [((xn, yn), wy ++ [pf])]) := Lib.hid (by
                                    rw [HSO.out, addN_no]
                                    · rw [HSTN.out, HNE.out]
                                    · rw [HSTN.out, ← HTR.out.k, hsn]; simp)
                                  have hTj : T'[j]? = some nd := by
                                    rw [HTE'.out, rowT_get hlt]; exact HND'.out
                                  have hadd := HTR.out.add hTj hsn pf
                                  rw [HNE.out] at hadd
                                  have HADD := Lib.hid hadd
                                  have hq6 := HQ5.out.ext ((Below.refl _ _).alloc (Nat.le_refl _) (.cells #[.int .i64 0, .int .i64 0, .int .i64 0] 70))
                                  have hk6 := HK5.out.alloc (.cells #[.int .i64 0, .int .i64 0, .int .i64 0] 70)
                                  have ha6 := HKa5.out.alloc (.cells #[.int .i64 0, .int .i64 0, .int .i64 0] 70)
                                  have hs6 : (w5.alloc (.cells #[.int .i64 0, .int .i64 0, .int .i64 0] 70)).heap.size = wc.heap.size + 2 := by rw [World.size_alloc, HS5.out]
                                  obtain ⟨w7, hput, hm7, hg7⟩ := hq6.m.put HIQ.out (o := ((x, y), pf)) ⟨⟨by show x ≤ 1000; omega, by show y ≤ 1000; omega⟩, hpf0, hpf1⟩ (by omega)
                                  change (Instr.mapUpdate 71 (.map (some bm)) (.agg #[.int .i64 (xn : Int), .int .i64 (yn : Int)]) (.agg #[.int .i64 (x : Int), .int .i64 (y : Int), .int .i64 pf])).run Tryz.prog _ = .ok () w7 at hput
                                  have hz7 := hg7.size
                                  obtain ⟨s1, s2, s3⟩ := hq6.push (n := ((xn, yn), wy ++ [pf])) hm7 hg7
                                  have hk7 := hk6.grown hg7 (fun e => by cases e; exact hq6.m.blk hk6 rfl)
                                  have ha7 := ha6.grown hg7 (fun e => by cases e; exact hq6.m.blk ha6 rfl)
                                  have p2 := hk6.cell (i := 0) rfl
                                  have p3 := hk6.cell (i := 1) rfl
                                  have a2 := ha6.cell (i := 0) rfl
                                  have a3 := ha6.cell (i := 1) rfl
                                  have q2 := hk7.cell (i := 0) rfl
                                  have q3 := hk7.cell (i := 1) rfl
                                  have S1 := Lib.hid s1; have S2 := Lib.hid s2; have S3 := Lib.hid s3; have HA7 := Lib.hid ha7
                                  have hz77 : wc.heap.size + 2 ≤ w7.heap.size := by omega
                                  clear hTj hadd hq6 hk6 ha6 hm7 hg7 s1 s2 s3 hk7 ha7 hs6 hsn HQ5 HKa5
                                  go_wp2_with (at_builtin; refine wpList_app elTwo rfl (.tmp 134) (.tmp 136) rfl (g + 4) _ T'.length 1 (pc T') [.int .i64 (xn : Int), .int .i64 (yn : Int)] rfl S1.out rfl rfl (by simp [Value.oneCell']) (by omega) (by omega) S2.out ?_; intro v8 w8 hown8 hg8 hat8)
                                  go_roundg (P - (k + 1))
                                  case rel =>
                                    refine ⟨k + 1, _, by go_num, by omega, rfl, by rw [HN.out]; exact S3.out w8 _ hg8 hown8, by rw [HN.out]; exact HADD.out, HA7.out.grown hg8 (fun e => HVN.out e.symm), Lib.hid (fun e => ?_)⟩
                                    rcases hat8 with q | q
                                    · rw [q] at e; exact HVN.out e
                                    · rw [q] at e; simp only [Option.some.injEq] at e; omega
                                  case measure => rw [HGK.out]; omega
                          · as_aux_lemma =>
                              have d2 : decide (hi < pf) = true := decide_eq_true (by omega)
                              have HNO : Hid (rowT st nd X (k + 1) T = T') := Lib.hid (by
                                rw [rowT_none HXS.out (by rw [HFPT.out, if_neg hph]), ← HTE'.out])
                              go_wp2_with fail
                              go_roundg (P - (k + 1))
                              case rel => exact ⟨k + 1, sn, by go_num, by omega, rfl, by rw [HNO.out]; exact HQ1.out, by rw [HNO.out]; exact HTR.out, HK1.out, HVN.out⟩
                              case measure => rw [HGK.out]; omega
                  · as_aux_lemma =>
                      have d1 : decide (k < P) = false := decide_eq_false hkP
                      obtain rfl : k = P := by omega
                      have HDN : Hid (T' = stN st ps (j + 1)) := Lib.hid (by
                        rw [HTE'.out, HPS.out, HTE.out, HPS.out, ← HXL.out]
                        refine rowT_done ?_
                        rw [← HPS.out, ← HTE.out]; exact HND'.out)
                      go_wp2_with fail
                      go_roundw
                      case rel => exact ⟨j + 1, sn, by go_num, by rw [← HDN.out]; exact HQ.out, by rw [← HDN.out]; exact HTR.out, HNX2.out⟩
                      case measure => simp [intOf]; omega
      · as_aux_lemma =>
          have d0 : decide (j < T.length) = false := decide_eq_false hlt
          have HN := Lib.hid (HSR.out.none (by rw [← HTE.out]; exact hlt))
          have HBW : Hid (Below g w wr) := Lib.hid (HB0.out.trans (HQ.out.b.mono (by omega)))
          have HANS : Hid (AnsN (stP la lb) (X.filterMap fpt) hit none) := Lib.hid (by rw [← HST.out, ← HPS.out]; exact HN.out)
          go_wp2_with fail
          go_ret2
          exact ⟨none, HANS.out, rfl, by rw [HG.out]; exact HBW.out⟩
end Go.Proofs.YtkcpfpofimkkiaaGreatDoor
