/- auto.thin, walked. -/
import Derived.Test.YthikgdogfkjioaaGreatDoorQ37
import Derived.Test.YthikgdogfkjioaaGreatDoorQ44
import Derived.Test.YthikgdogfkjioaaGreatDoorQ23
import Derived.Test.YthikgdogfkjioaaGreatDoorQ28
namespace Go.Proofs.YthikgdogfkjioaaGreatDoor
open Go.RowKit BigFrame
set_option linter.unusedVariables false
set_option linter.unusedSimpArgs false
set_option maxRecDepth 100000

theorem below_draws {w w' : World} {B : Nat} (h : Below B w w') (n : Nat) : Below B w (w'.drewN n) := h.trans ⟨rfl, rfl, rfl, Nat.le_refl _, fun _ _ => rfl⟩

set_option maxHeartbeats 16000000 in
theorem thin_any (Ar Am Ax Ay : Option Addr) (N K P cr cm cx cy : Nat) (RU : List Int) (MV : List (List Int)) (ru : Nat → Int) (mv : Nat → Nat → Nat) (C : List (List Rg)) (X : List Rg) (Y : List Int) (w : World) (B : Nat) (hB : B ≤ w.heap.size)
    (hR : RdI w B Ar RU) (hM : RdM w B Am MV) (hD : Dn RU MV N K ru mv) (hcr : N ≤ cr ∧ cr ≤ maxLen) (hcm : N ≤ cm ∧ cm ≤ maxLen) (hN : 0 < N) (hN2 : N ≤ 60) (hK : K ≤ 1000) (hCK : C.length = K)
    (hX : RdG w B Ax X) (hXl : X.length = P) (hXc : P ≤ cx ∧ cx ≤ maxLen) (hY : RdI w B Ay Y) (hYc : P ≤ cy ∧ cy ≤ maxLen) (hA : AlP C X Y) (hPn : P ≤ 64400) (hXb : ∀ r ∈ X, 0 ≤ r.1 ∧ r.1 ≤ r.2 ∧ r.2 ≤ 1114111) :
    Calls Tryz.prog 12 #[.agg #[.int .i64 (K : Int), .slice Ar N cr, .slice Am N cm], .agg #[.slice Ax P cx, .slice Ay P cy, .int .i64 (K : Int)]] w fun e w' => ∃ A' c' acc, e = .returned (.agg #[.slice A' (List.length acc) c']) ∧ acc.length ≤ N ∧ RdA w' w'.heap.size A' acc ∧ Below w.heap.size w w' ∧
      ∃ AL : List Bool, (∀ s, s < N → (bAt AL s = true ↔ Live ru mv (· < K) s)) ∧ ((bAt AL 0 = false ∧ acc = []) ∨ (bAt AL 0 = true ∧ ∃ ord, ShI N (thE (bAt AL) C mv ru) X ord.length ord acc)) := by
  obtain ⟨W0, hW0⟩ : ∃ W0, W0 = ((w.alloc (.cells #[.int .i64 (K : Int), .slice Ar N cr, .slice Am N cm] 43)).alloc (.cells #[.slice Ax P cx, .slice Ay P cy, .int .i64 (K : Int)] 36)).alloc (.cells #[.slice none 0 0] 24) := ⟨_, rfl⟩
  obtain ⟨g, hg⟩ : ∃ g, w.heap.size = g := ⟨_, rfl⟩
  have hs0 : W0.heap.size = g + 1 + 1 + 1 := by rw [hW0, ← hg]; simp
  have hb0 : Below g w W0 := by rw [hW0, ← hg]; exact (((Below.refl _ _).alloc (Nat.le_refl _) _).alloc (by simp) _).alloc (by simp only [World.size_alloc]; omega) _
  have hkd : Blk W0 g 43 [.int .i64 (K : Int), .slice Ar N cr, .slice Am N cm] := by
    rw [hW0, ← hg]
    exact ((Blk.new w 43 [.int .i64 (K : Int), .slice Ar N cr, .slice Am N cm]).alloc _).alloc _
  have hkx : Blk W0 (g + 1) 36 [.slice Ax P cx, .slice Ay P cy, .int .i64 (K : Int)] := by
    have := Blk.new (w.alloc (.cells #[.int .i64 (K : Int), .slice Ar N cr, .slice Am N cm] 43)) 36 [.slice Ax P cx, .slice Ay P cy, .int .i64 (K : Int)]
    rw [show (w.alloc (.cells #[.int .i64 (K : Int), .slice Ar N cr, .slice Am N cm] 43)).heap.size = g + 1 by rw [← hg]; simp] at this
    rw [hW0]; exact this.alloc _
  have hkr : Blk W0 (g + 1 + 1) 24 [.slice none 0 0] := by
    have := Blk.new ((w.alloc (.cells #[.int .i64 (K : Int), .slice Ar N cr, .slice Am N cm] 43)).alloc (.cells #[.slice Ax P cx, .slice Ay P cy, .int .i64 (K : Int)] 36)) 24 [.slice none 0 0]
    rw [show ((w.alloc (.cells #[.int .i64 (K : Int), .slice Ar N cr, .slice Am N cm] 43)).alloc (.cells #[.slice Ax P cx, .slice Ay P cy, .int .i64 (K : Int)] 36)).heap.size = g + 1 + 1 by rw [← hg]; simp] at this
    rw [hW0]; exact this
  have HLIV := Lib.hid (live_any Ar Am N K cr cm RU MV ru mv W0 B (by omega) (RdI.below hR (hb0.mono (by omega))) (hM.below (hb0.mono (by omega))) hD hcr hcm hN hN2 hK)
  have HB0 := Lib.hid hb0; have HG := Lib.hid hg; have HS0 := Lib.hid hs0; have HKD := Lib.hid hkd; have HKX := Lib.hid hkx; have HKR := Lib.hid hkr
  have HDN := Lib.hid hD; have HA := Lib.hid hA; have HXL := Lib.hid hXl; have HXB := Lib.hid hXb; have HCK := Lib.hid hCK
  have HRI : Hid (∀ W, Below g w W → RdI W B Ar RU) := Lib.hid (fun W h => RdI.below hR (h.mono (by omega)))
  have HRM : Hid (∀ W, Below g w W → RdM W B Am MV) := Lib.hid (fun W h => hM.below (h.mono (by omega)))
  have HXR : Hid (∀ W, Below g w W → RdG W B Ax X) := Lib.hid (fun W h => RdG.below hX (h.mono (by omega)))
  have HYR : Hid (∀ W, Below g w W → RdI W B Ay Y) := Lib.hid (fun W h => RdI.below hY (h.mono (by omega)))
  have hgB : B ≤ g := by omega
  obtain ⟨hcr1, hcr2⟩ := hcr
  obtain ⟨hcm1, hcm2⟩ := hcm
  obtain ⟨hcx1, hcx2⟩ := hXc
  obtain ⟨hcy1, hcy2⟩ := hYc
  unfold maxLen at hcr2 hcm2 hcx2 hcy2
  clear hR hM hD hX hXl hY hA hXb hCK hb0 hs0
  go_enter Tryz.func12, Tryz.ntmps12
  go_wp2_with fail
  rw [← hW0]
  clear hW0 hg hkd hkx hkr
  refine HLIV.out.mono ?_
  clear HLIV
  rintro e w1 ⟨gl, AL, rfl, hal, hall, hlive, hglo, hb1⟩
  have hz0 := HS0.out
  have hz1 := hb1.size
  have HKD1 := Lib.hid (HKD.out.below hb1 (by omega)); have HKX1 := Lib.hid (HKX.out.below hb1 (by omega)); have HKR1 := Lib.hid (HKR.out.below hb1 (by omega))
  have HB1 : Hid (Below g w w1) := Lib.hid (HB0.out.trans (hb1.mono (by omega)))
  have HAL := Lib.hid hal; have HALL := Lib.hid hall; have HLIVE := Lib.hid hlive
  have y0 := hal.bcell (k := 0) (by rw [hall]; exact hN)
  have y1 := HKD1.out.cell (i := 1) rfl
  have hbb : bth AL 0 = bAt AL 0 := rfl
  rw [hbb] at y0
  have dN : ((N : Int) == (0 : Int)) = false := by simp; omega
  have hgl1 := hal.lt
  clear hal hall hlive hb1 hbb
  cases hb0 : bAt AL 0 with
  | false =>
    as_aux_lemma =>
      rw [hb0] at y0
      have HB00 := Lib.hid hb0
      have r0 := HKR1.out.cell (i := 0) rfl
      have r1 := HKR1.out.frozen 0
      have HKR2 := Lib.hid (HKR1.out.set_ 0 (.slice none 0 0))
      have HB2 := Lib.hid (HB1.out.setCell (p := ⟨g + 1 + 1, 0, none⟩) (show g ≤ g + 1 + 1 by omega) (.slice none 0 0))
      clear hb0
      go_wp2_with fail
      refine bodyPost_ret (results_cell_row rfl _ _ (g + 1 + 1) _ #[.slice none 0 0] _ _ rfl HKR2.out Tryz.underlying24 rfl (by kernel_rfl)) rfl ?_
      have hgw := HG.out
      exact ⟨none, 0, [], rfl, Nat.zero_le _, fun h0 => absurd h0 (by simp), hgw ▸ HB2.out, AL, HLIVE.out, .inl ⟨HB00.out, rfl⟩⟩
  | true =>
    as_aux_lemma =>
      rw [hb0] at y0
      have HB00 := Lib.hid hb0
      clear hb0
      obtain ⟨z, hz⟩ : ∃ z, z = w1.heap.size := ⟨_, rfl⟩
      obtain ⟨W2, hW2⟩ : ∃ W2, W2 = (w1.alloc (.cells #[.int .i64 0] 3)).alloc (.map #[] 0) := ⟨_, rfl⟩
      have hs2 : W2.heap.size = z + 1 + 1 := by rw [hW2, hz]; simp
      have hm2 : IMap W2 (z + 1) 0 (fun _ => none) := by
        have := IMap.made (w1.alloc (.cells #[.int .i64 0] 3))
        rw [show (w1.alloc (.cells #[.int .i64 0] 3)).heap.size = z + 1 by rw [hz]; simp] at this
        rw [hW2]; exact this
      have hk2 : Blk W2 z 3 [.int .i64 0] := by
        have := (Blk.new w1 3 [.int .i64 0]).alloc (.map #[] 0)
        rw [hW2, hz]; exact this
      have hb2 : Below z w1 W2 := by rw [hW2, hz]; exact ((Below.refl _ _).alloc (Nat.le_refl _) _).alloc (by simp) _
      obtain ⟨W3, hput, hm3, hg3⟩ := hm2.put (x := 0) (wfI_nat (a := 0) (by omega)) (v := 0) (by omega) (by omega)
      have hput : (Instr.mapUpdate 59 (.map (some (z + 1))) (.int .i64 0) (.int .i64 0)).run Tryz.prog W2 = .ok () W3 := hput
      rw [hW2, hz] at hput
      obtain ⟨ga, hga⟩ : ∃ ga, ga = W3.heap.size := ⟨_, rfl⟩
      obtain ⟨W4, hW4⟩ : ∃ W4, W4 = W3.alloc (.cells #[.slice none 0 0] 24) := ⟨_, rfl⟩
      have hb34 : Below W3.heap.size W3 W4 := by rw [hW4]; exact (Below.refl _ _).alloc (Nat.le_refl _) _
      have hb3 : Below z w1 W3 := hb2.grown hg3 (by rw [hs2]; omega) (fun q e => by cases e; omega)
      have HBa := Lib.hid (hb3.trans (hb34.mono (by have := hg3.size; omega)))
      have HKA : Hid (Blk W4 ga 24 [.slice none 0 0]) := Lib.hid (by rw [hW4, hga]; exact Blk.new W3 _ _)
      have HOV : Hid (W4.ownsRow z 3 1 (.slice (some ⟨z, 0, none⟩) 1 1) 1 (nv [0])) := Lib.hid (own_ext (Blk.own (l := [0]) (hk2.grown hg3 (by simp)) (Nat.le_refl _) (by decide)) hb34)
      have HIM : Hid (IMap W4 (z + 1) 1 (idxI [0])) := Lib.hid ((hm3.congr (fun x _ => by
        unfold idxI
        by_cases e : x = 0
        · subst e; simp
        · rw [if_neg e]; simp; omega)).ext hb34)
      have hzga : z + 1 < ga := by rw [hga]; have := hg3.size; omega
      have hmk := @run_makeMap Tryz.prog
      have HZ := Lib.hid hz
      have hglz : gl < z := by omega
      have hgz : g + 1 + 1 < z := by omega
      clear hs2 hm2 hk2 hb2 hm3 hg3 hb34 hb3
      go_wp2_with fail
      rw [← hga, ← hW4, ← hz]
      clear hput hmk hW2 hW4 hga hz y0 y1
      have HBK : Hid (∀ wr, Below z w1 wr → Below g w wr) := Lib.hid (fun wr h => HB1.out.trans (h.mono (by omega)))
      have HGD : Hid (∀ wr, Below z w1 wr → Blk wr g 43 [.int .i64 (K : Int), .slice Ar N cr, .slice Am N cm]) := Lib.hid (fun wr h => HKD1.out.below h (by omega))
      have HGX : Hid (∀ wr, Below z w1 wr → Blk wr (g + 1) 36 [.slice Ax P cx, .slice Ay P cy, .int .i64 (K : Int)]) := Lib.hid (fun wr h => HKX1.out.below h (by omega))
      have HGR : Hid (∀ wr, Below z w1 wr → Blk wr (g + 1 + 1) 24 [.slice none 0 0]) := Lib.hid (fun wr h => HKR1.out.below h (by omega))
      have HGL : Hid (∀ wr, Below z w1 wr → Blk wr gl 4 (bv AL)) := Lib.hid (fun wr h => HAL.out.below h hglz)
      obtain ⟨rb, ro, rfl, hrb, -⟩ := (HRI.out w1 HB1.out).at_ (by rw [HDN.out.lr]; exact hN)
      obtain ⟨mb, mo, rfl, hmb, -⟩ := HRM.out w1 HB1.out (by rw [HDN.out.lm]; exact hN)
      have HRC : Hid (∀ wr, Below z w1 wr → ∀ s, s < N → wr.cell? ⟨rb, ro + s, none⟩ = some (.int .i64 (ru s))) := Lib.hid (fun wr h s hs => by
        obtain ⟨b, o, e, _, hc⟩ := (HRI.out wr (HBK.out wr h)).at_ (by rw [HDN.out.lr]; exact hN)
        simp only [Option.some.injEq, Addr.mk.injEq] at e
        obtain ⟨rfl, rfl, -⟩ := e
        have := hc s (by rw [HDN.out.lr]; exact hs)
        rwa [HDN.out.eq s hs] at this)
      have HMR : Hid (∀ wr, Below z w1 wr → ∀ s c, s < N → c < K → ∃ b2 o2 c2, wr.cell? ⟨mb, mo + s, none⟩ = some (.slice (some ⟨b2, o2, none⟩) K c2) ∧ K ≤ c2 ∧ c2 ≤ maxLen ∧ wr.cell? ⟨b2, o2 + c, none⟩ = some (.int .i64 (mv s c : Int))) := Lib.hid (fun wr h s c hs hc => by
        obtain ⟨b, o, e, _, hcc⟩ := HRM.out wr (HBK.out wr h) (by rw [HDN.out.lm]; exact hN)
        simp only [Option.some.injEq, Addr.mk.injEq] at e
        obtain ⟨rfl, rfl, -⟩ := e
        obtain ⟨A', c', q1, q2, q3, q4⟩ := hcc s (by rw [HDN.out.lm]; exact hs)
        rw [HDN.out.row s hs] at q1 q2
        obtain ⟨b2, o2, rfl, _, hc2⟩ := q4.at_ (by rw [HDN.out.row s hs]; omega)
        have := hc2 c (by rw [HDN.out.row s hs]; exact hc)
        rw [(HDN.out.mv s c hs hc).1] at this
        exact ⟨b2, o2, c', q1, q2, q3, this⟩)
      have HBE : Hid (bAt AL 0 = true) := HB00
      go_loopw [6, 9] (fun ov ix wr => ∃ (i : Nat) (va : Value) (vs : List Value) (ord : List Nat) (acc : List St), i ≤ ord.length ∧ ix = .int .i64 (i : Int) ∧ Hid (Below z w1 wr) ∧ Hid (Blk wr ga 24 [va]) ∧ Hid (wr.ownsRow z 3 1 ov ord.length (nv ord)) ∧ Hid (OwS wr z va vs acc) ∧ Hid (IMap wr (z + 1) ord.length (idxI ord)) ∧ Hid (ShI N (thE (bAt AL) C mv ru) X i ord acc)) (fun _ ix _ => N + 1 - (intOf ix).toNat)
      case atStart => exact ⟨0, .slice none 0 0, [], [0], [], Nat.zero_le _, rfl, HBa, HKA, HOV, OwS.nil _ _, HIM, ⟨rfl, OrdP.one hN, rfl, fun s hs => (by cases hs)⟩⟩
      case round =>
        as_aux_lemma =>
          clear HBa HKA HOV HIM
          obtain ⟨i, va, vs, ord, acc, hi, rfl, HBz, HVA, HOV, HOS, HIM, HI⟩ := hrel
          have hol := HI.out.p.len
          have hzk := HBz.out.size
          have hz1 := HZ.out
          by_cases hio : i < ord.length
          · as_aux_lemma =>
              have dio : decide ((i : Int) < (ord.length : Int)) = true := decide_eq_true (by omega)
              obtain ⟨ob, oc, rfl, ho1, ho2, ho3, ho4, hof, hoc⟩ := row_at HOV.out (by omega)
              have hsn : ord[i] < N := HI.out.p.lt _ (List.getElem_mem hio)
              have x1 := hoc i (.int .i64 ((ord[i] : Nat) : Int)) (by unfold nv; rw [List.getElem?_map, List.getElem?_eq_getElem hio]; rfl)
              have x2 := HRC.out wr HBz.out _ hsn
              have hg0 := HGD.out wr HBz.out
              have x3 := hg0.cell (i := 1) rfl
              have hgl0 := hg0.lt
              obtain ⟨s, hs⟩ : ∃ s, s = ord[i] := ⟨_, rfl⟩
              rw [← hs] at x1 x2 hsn
              have HSO : Hid (ord[i]? = some s) := Lib.hid (by rw [hs]; exact List.getElem?_eq_getElem hio)
              unfold maxLen at ho2
              clear hs hoc hg0
              obtain ⟨wd, hwd⟩ : ∃ wd, wd = wr.drew := ⟨_, rfl⟩
              have hcd : ∀ p, wd.cell? p = wr.cell? p := by intro p; rw [hwd]; rfl
              have hzd : wd.heap.size = wr.heap.size := by rw [hwd]; rfl
              have k1 : ∀ X : WB wd.heap.size wd, X.val.cell? ⟨ob, i, none⟩ = some (.int .i64 (s : Int)) := fun X => (X.bel.cell (p := ⟨ob, i, none⟩) (by rw [hzd]; exact ho4)).trans ((hcd _).trans x1)
              have k2 : ∀ X : WB wd.heap.size wd, X.val.cell? ⟨rb, ro + s, none⟩ = some (.int .i64 (ru s)) := fun X => (X.bel.cell (p := ⟨rb, ro + s, none⟩) (by rw [hzd]; show rb < _; omega)).trans ((hcd _).trans x2)
              have k3 : ∀ X : WB wd.heap.size wd, X.val.cell? ⟨g, 1, none⟩ = some (.slice (some ⟨rb, ro, none⟩) N cr) := fun X => (X.bel.cell (p := ⟨g, 1, none⟩) (by rw [hzd]; exact hgl0)).trans ((hcd _).trans x3)
              have HWD := Lib.hid hwd
              clear hcd x1 x2 x3
              go_wp2_with fail
              refine wp_region_S (fun w' => ∃ X : WB wd.heap.size wd, w' = X.val) (by kernel_rfl) ?_
              rw [← hwd]
              clear hwd
              show wpAnyS _ _ _ _ _ (2 + 9) _ _ _
              refine takeS 2 0 9 (by kernel_rfl) (by kernel_rfl) (fun _ _ d _ _ h => by cases d <;> exact h) ⟨⟨_, Below.refl _ _⟩, rfl⟩ ?_
              simp only [List.take_succ_cons, List.take_zero, List.drop_succ_cons, List.drop_zero]
              repeat (first | go_big_quiet_skip | (go_big_quiet_want; go_big_quiet_op; go_big_quiet_on))
              refine wpQuiet_nil ?_
              clear k1 k2 k3
              refine oneS 1 9 (by kernel_rfl) (by decide) ?_
              simp only [List.take_succ_cons, List.take_zero, List.drop_succ_cons, List.drop_zero]
              go_wp2_with fail
              refine ⟨⟨WB.mk _ ((Below.refl _ _).alloc (Nat.le_refl _) _), rfl⟩, ?_⟩
              refine oneS 0 10 (by kernel_rfl) (by decide) ?_
              simp only [List.take_succ_cons, List.take_zero, List.drop_succ_cons, List.drop_zero]
              go_wp2_with fail
              refine ⟨⟨WB.mk _ ((Below.refl _ _).alloc (Nat.le_refl _) _), rfl⟩, ?_⟩
              refine endS (by kernel_rfl) ?_
              obtain ⟨wn, hwn⟩ : ∃ wn, wn = wd.alloc (.cells #[.int .i64 (ru s), .slice none 0 0] 30) := ⟨_, rfl⟩
              rw [← hwn]
              have hsn2 : wn.heap.size = wr.heap.size + 1 := by rw [hwn]; simp [hzd]
              have hbn : Below wr.heap.size wr wn := by
                rw [hwn, HWD.out]
                exact (show Below wr.heap.size wr wr.drew from ⟨rfl, rfl, rfl, Nat.le_refl _, fun _ _ => rfl⟩).alloc (Nat.le_refl _) _
              have hgs : Blk wn wr.heap.size 30 [.int .i64 (ru s), .slice none 0 0] := by
                rw [hwn, ← hzd]; exact Blk.new wd _ _
              have hzg : z ≤ wr.heap.size := by omega
              have HIN0 : Hid (In2 w1 wn ga wr.heap.size (z + 1) ord.length (ru s) va vs acc (.slice (some ⟨ob, 0, none⟩) ord.length oc) (.slice none 0 0) ord []) := Lib.hid ⟨by rw [← HZ.out]; exact HBz.out.trans (hbn.mono hzg), HVA.out.below' hbn, by rw [← HZ.out]; exact own_ext HOV.out hbn, by rw [← HZ.out]; exact HOS.out.ext hbn, hgs, OwV.nil _ _, HIM.out.ext hbn, by omega, by omega, by omega, fun k u q h1 h2 => HOS.out.lt k u q h1 h2, fun q h1 => (HOS.out.row.lt q h1).2⟩
              have hob : ob < wr.heap.size := ho4
              have x4 := (HGX.out wn (HBz.out.trans (hbn.mono hzg))).cell (i := 0) rfl
              clear hwn hbn hgs HBz HVA HOV HOS HIM HWD hzd hof ho4
              obtain ⟨wo, rfl⟩ : ∃ wo : World, wo = wr := ⟨_, rfl⟩
              go_wp2_with fail
              clear x4
              go_loopw [6, 51] (fun ov kx wr => ∃ (k : Nat) (vm : Value) (od : List Nat) (ms : List Mv), k ≤ P ∧ kx = .int .i64 (k : Int) ∧ Hid (In2 w1 wr ga wo.heap.size (z + 1) od.length (ru s) va vs acc ov vm od ms) ∧
                Hid (rowK (thE (bAt AL) C mv ru) X s ord k = (od, ms) ∧ OrdP N od ∧ ms.length ≤ k ∧ ord.length ≤ od.length ∧ od[i]? = some s ∧ ∀ m ∈ ms, 0 ≤ m.2.1 ∧ m.2.1 ≤ 1114111)) (fun _ kx _ => P - (intOf kx).toNat)
              case atStart => exact ⟨0, .slice none 0 0, ord, [], Nat.zero_le _, rfl, HIN0, ⟨rowK_zero, HI.out.p, Nat.le_refl _, Nat.le_refl _, HSO.out, fun m hm => (by cases hm)⟩⟩
              case round =>
                as_aux_lemma =>
                  clear HIN0
                  obtain ⟨k, vm, od, ms, hk, rfl, HIN, HX⟩ := hrel
                  have hzk2 := HIN.out.b.size
                  have hgl2 := HIN.out.gs_.lt
                  have HBz : Hid (Below z w1 wr) := Lib.hid (by rw [HZ.out]; exact HIN.out.b)
                  by_cases hkP : k < P
                  · as_aux_lemma =>
                      --Q2
                      have hzr : z ≤ wr.heap.size := by omega
                      clear hz1
                      have dk : decide ((k : Int) < (P : Int)) = true := decide_eq_true (by omega)
                      have hkX : k < X.length := by rw [HXL.out]; exact hkP
                      have hisd := HX.out.2.2.2.2.1
                      have hiol : i < od.length := (List.getElem?_eq_some_iff.1 hisd).1
                      have hodn := HX.out.2.1.len
                      have hbw := HBK.out wr HBz.out
                      obtain ⟨xb, xo, rfl, hxb, hxc⟩ := (HXR.out wr hbw).at_ (by omega)
                      obtain ⟨yb, yo, rfl, hyb, hyc⟩ := (HYR.out wr hbw).at_ (by rw [HA.out.len]; omega)
                      obtain ⟨u1, u2⟩ := hxc k hkX
                      have u3 := hyc k (by rw [HA.out.len]; exact hkX)
                      obtain ⟨c1, c2⟩ := HA.out.cls k hkX
                      rw [c1] at u3
                      rw [HCK.out] at c2
                      have hbd := HXB.out (nthR X k) (by rw [nthR_get hkX]; exact List.getElem_mem _)
                      have hrs := rowK_succ (e := thE (bAt AL) C mv ru) (s := s) (ord := ord) (pcs := X) hkX
                      rw [show X[k] = nthR X k from (nthR_get hkX).symm, HX.out.1] at hrs
                      obtain ⟨xr, hxr⟩ : ∃ xr, xr = nthR X k := ⟨_, rfl⟩
                      rw [← hxr] at u1 u2 u3 c2 hbd hrs
                      obtain ⟨px, py⟩ := xr
                      simp only at u1 u2 u3 c2 hbd
                      obtain ⟨c, hc⟩ : ∃ c, c = clsOf C px := ⟨_, rfl⟩
                      rw [← hc] at u3 c2
                      obtain ⟨ob2, oc2, rfl, hp1, hp2, hp3, hp4, -, hpc⟩ := row_at HIN.out.ov_ (by omega)
                      have x1 := hpc i (.int .i64 (s : Int)) (by unfold nv; rw [List.getElem?_map, hisd]; rfl)
                      have hsN : s < N := HX.out.2.1.lt s (List.mem_of_getElem? hisd)
                      have hob2 : ob2 < wr.heap.size := hp4
                      unfold maxLen at hp2
                      obtain ⟨w6, hw6⟩ : ∃ w6, w6 = wr.alloc (.cells #[.int .i64 px, .int .i64 py] 52) := ⟨_, rfl⟩
                      have hb6 : Below wr.heap.size wr w6 := by rw [hw6]; exact (Below.refl _ _).alloc (Nat.le_refl _) _
                      have HB6 := Lib.hid hb6
                      have HPR6 : Hid (Blk w6 wr.heap.size 52 [.int .i64 px, .int .i64 py]) := Lib.hid (by rw [hw6]; exact Blk.new wr _ _)
                      have HIN6 := Lib.hid (HIN.out.ext hb6)
                      have HBz6 : Hid (Below z w1 w6) := Lib.hid (HBz.out.trans (hb6.mono (by have := HZ.out; omega)))
                      obtain ⟨pr, hpr⟩ : ∃ pr, pr = wr.heap.size := ⟨_, rfl⟩
                      have hob6 : ob2 < pr := by omega
                      have x1 := (hb6.cell (p := ⟨ob2, i, none⟩) hob2).trans x1
                      have u3 := (hb6.cell (p := ⟨yb, yo + k, none⟩) (show yb < _ by have := HZ.out; omega)).trans u3
                      have x2 := (HGD.out w6 HBz6.out).cell (i := 2) rfl
                      have x5 := (HGX.out w6 HBz6.out).cell (i := 1) rfl
                      obtain ⟨b2, o2, c2', x3, q1, q2, x4⟩ := HMR.out w6 HBz6.out s c hsN c2
                      have htn := (HDN.out.mv s c hsN c2).2
                      obtain ⟨t, ht⟩ : ∃ t, t = mv s c := ⟨_, rfl⟩
                      rw [← ht] at x4 htn
                      have HRS := Lib.hid hrs; have HTC : Hid (mv s (clsOf C px) = t) := Lib.hid (by rw [← hc, ht])
                      have hml := HX.out.2.2.1
                      have hmb := HX.out.2.2.2.2.2
                      have HXO0 : Hid (OrdP N od ∧ ord.length ≤ od.length ∧ od[i]? = some s) := Lib.hid ⟨HX.out.2.1, HX.out.2.2.2.1, hisd⟩
                      have hgsl0 := HIN.out.gs_.lt
                      unfold maxLen at q2
                      clear hxc hyc c1 hrs hxr hc ht hpc hisd hb6 HIN HBz HX
                      go_wp2_with fail
                      rw [← hpr, ← hw6]
                      rw [← hpr] at HPR6 HB6 hgsl0
                      clear hw6 hpr u1 u2
                      go_quiet (fail)
                      obtain ⟨w8, hw8⟩ : ∃ w8, w8 = w6.drewN nq := ⟨_, rfl⟩
                      rw [← hw8]
                      have HIN8 : Hid (In2 w1 w8 ga wo.heap.size (z + 1) od.length (ru s) va vs acc (.slice (some ⟨ob2, 0, none⟩) od.length oc2) vm od ms) := Lib.hid (by rw [hw8]; exact HIN6.out.drewN nq)
                      have HPR8 : Hid (Blk w8 pr 52 [.int .i64 px, .int .i64 py]) := Lib.hid (by rw [hw8]; exact HPR6.out.drewN nq)
                      have HBz8 : Hid (Below z w1 w8) := Lib.hid (by rw [hw8]; exact below_draws HBz6.out nq)
                      have y0 := (HGL.out w8 HBz8.out).bcell (k := t) (by rw [HALL.out]; exact htn)
                      have hbb : bth AL t = bAt AL t := rfl
                      rw [hbb] at y0
                      have HWT := Lib.hid (wfI_nat (a := t) (by omega))
                      clear hw8 hbb HIN6 HPR6 HBz6 x1 x2 x3 x4 x5 u3
                      cases hnt : bAt AL t with
                      | false =>
                        as_aux_lemma =>
                          rw [hnt] at y0
                          have HRS2 : Hid (rowK (thE (bAt AL) C mv ru) X s ord (k + 1) = (od, ms) ∧ OrdP N od ∧ ms.length ≤ k + 1 ∧ ord.length ≤ od.length ∧ od[i]? = some s ∧ ∀ m ∈ ms, 0 ≤ m.2.1 ∧ m.2.1 ≤ 1114111) := Lib.hid ⟨by rw [HRS.out]; exact th_skip (by rw [HTC.out]; exact hnt), HXO0.out.1, by omega, HXO0.out.2.1, HXO0.out.2.2, hmb⟩
                          clear hnt
                          go_wp2_with fail
                          go_roundw
                          case rel => exact ⟨k + 1, vm, od, ms, by omega, by go_num, HIN8, HRS2⟩
                          case measure => simp [intOf]; omega
                      | true =>
                        by_cases hin : t ∈ od
                        · as_aux_lemma =>
                            rw [hnt] at y0
                            have lk2 := HIN8.out.m.look2 HWT.out
                            have hix : idxI od (t : Int) = some (od.idxOf t) := by rw [idxI_nat, if_pos hin]
                            rw [hix] at lk2
                            simp only [Option.getD_some, Option.isSome_some] at lk2
                            have hjl : od.idxOf t < od.length := List.idxOf_lt_length_iff.2 hin
                            have hrj : rowK (thE (bAt AL) C mv ru) X s ord (k + 1) = (od, joinM ms px py (od.idxOf t)) := by rw [HRS.out]; exact th_old HTC.out hnt hin
                            obtain ⟨j, hj⟩ : ∃ j, j = od.idxOf t := ⟨_, rfl⟩
                            rw [← hj] at lk2 hix hjl hrj
                            have HLK := Lib.hid hix; have HROWJ := Lib.hid hrj; have HINW := HIN8; have HPR := HPR8; have HXO := HXO0
                            clear hnt hin hix hj hrj HIN8 HPR8 HXO0
                            go_upto_region 19 with (fail)
                            clear y0 lk2
                            have s1 := HINW.out.gs_.cell (i := 1) rfl
                            have lk1 := HINW.out.m.look1 HWT.out
                            rw [HLK.out] at lk1
                            simp only [Option.getD_some] at lk1
                            have lkq : ∀ q, (Instr.lookup 59 (.map (some (z + 1))) (.int .i64 (t : Int)) false).run Tryz.prog (w8.drewN q) = .ok (.int .i64 (j : Int)) (w8.drewN q) := fun q => by
                              have h := (HINW.out.drewN q).m.look1 HWT.out
                              rw [HLK.out] at h
                              simp only [Option.getD_some] at h
                              exact h
                            have p0 := HPR.out.cell (i := 0) rfl
                            have p1 := HPR.out.cell (i := 1) rfl
                            have hgsl := HINW.out.gs_.lt
                            have hprl := HPR.out.lt
                            rcases List.eq_nil_or_concat ms with rfl | ⟨l0, ⟨mx, my, mz⟩, rfl⟩
                            · as_aux_lemma =>
                                obtain ⟨Av, cv, rfl, -, -⟩ := own_len HINW.out.om
                                have HROW2 : Hid (rowK (thE (bAt AL) C mv ru) X s ord (k + 1) = (od, [] ++ [(px, py, (j : Int))])) := Lib.hid (by rw [HROWJ.out, joinM_nil]; rfl)
                                go_wp2_with fail
                                go_quiet (fail)
                                obtain ⟨wt, hwt⟩ : ∃ wt, wt = w8.drewN nq := ⟨_, rfl⟩
                                have hct : ∀ q, wt.cell? q = w8.cell? q := fun q => by rw [hwt]; rfl
                                have HINt : Hid (In2 w1 wt ga wo.heap.size (z + 1) od.length (ru s) va vs acc _ _ od []) := Lib.hid (by rw [hwt]; exact HINW.out.drewN nq)
                                have lk1 := lkq nq
                                have s1 := (hct _).trans s1
                                have p0 := (hct _).trans p0
                                have p1 := (hct _).trans p1
                                have hgt : wo.heap.size + 1 ≤ wt.heap.size := by rw [hwt]; exact hgsl
                                rw [← hwt] at lk1 ⊢
                                clear hct hwt lkq
                                go_wp2_with (at_builtin; go_must (refine wpList_app elMvs rfl (.tmp 130) (.tmp 139) rfl (wo.heap.size + 1) _ 0 1 _ [.int .i64 px, .int .i64 py, .int .i64 (j : Int)] rfl (by have h := HINt.out.om; unfold OwV at h; rw [show ([] : List Mv).length = 0 by simp] at h; exact h) rfl rfl (by simp [Value.oneCell']) (by omega) (by omega) hgt ?_); intro v11 w11 hown11 hg11 hat11; go_must (obtain ⟨A11, c11, rfl, -, -⟩ := own_len hown11); go_must (have hc11 := HINt.out.pushV_cells hg11); have t1 := hc11.1; have t2 := hc11.2; go_must (have HIN11 := Lib.hid (HINt.out.pushV hg11 (by rw [show ([] : List Mv).length = 0 by simp]; exact hown11))); clear hown11 hg11 hat11 hc11)
                                go_roundw
                                case rel => exact ⟨k + 1, _, od, [] ++ [(px, py, (j : Int))], by omega, by go_num, HIN11, ⟨HROW2.out, HXO.out.1, by simp only [List.length_append, List.length_singleton, List.length_nil] at hml ⊢; omega, HXO.out.2.1, HXO.out.2.2, bd_snoc hmb ⟨by omega, by omega⟩⟩⟩
                                case measure => simp [intOf]; omega
                            · rw [List.concat_eq_append] at HINW hml hmb HROWJ
                              have hmyb := hmb (mx, my, mz) (by simp)
                              simp only at hmyb
                              obtain ⟨vg, vc, rfl, e2, e3, e5, e6, e7, e8, e9⟩ := HINW.out.last
                              have hll : l0.length + 1 ≤ 70000 := by simp only [List.length_append, List.length_singleton] at hml; omega
                              have dl : decide ((0 : Int) ≤ (l0.length : Int)) = true := decide_eq_true (by omega)
                              have hme : (l0 ++ [(mx, my, mz)]).length = l0.length + 1 := by simp
                              unfold maxLen at e3
                              have HE9 := Lib.hid e9; have HE6 := Lib.hid e6
                              clear e9 e6
                              by_cases hz1 : mz = (j : Int)
                              · have dz : (mz == (j : Int)) = true := by simpa using hz1
                                by_cases hz2 : my + 1 = px
                                · as_aux_lemma =>
                                    have dy : ((my + 1) == px) = true := by simpa using hz2
                                    subst hz1
                                    have HROW2 : Hid (rowK (thE (bAt AL) C mv ru) X s ord (k + 1) = (od, l0 ++ [(mx, py, (j : Int))])) := Lib.hid (by rw [HROWJ.out, joinM_yes _ _ _ _ _ _ hz2])
                                    go_wp2_with fail
                                    go_quiet (fail)
                                    obtain ⟨wt, hwt⟩ : ∃ wt, wt = w8.drewN nq := ⟨_, rfl⟩
                                    have hct : ∀ q, wt.cell? q = w8.cell? q := fun q => by rw [hwt]; rfl
                                    have HIN11 : Hid (In2 w1 (wt.setCell ⟨vg, l0.length * 3 + 1, none⟩ (.int .i64 py)) ga wo.heap.size (z + 1) od.length (ru s) va vs acc _ _ od (l0 ++ [(mx, py, (j : Int))])) := Lib.hid (by
                                      obtain ⟨vg', vc', q1, _, _, _, _, _, _, q9⟩ := (HINW.out.drewN nq).last
                                      simp only [Value.slice.injEq, Option.some.injEq, Addr.mk.injEq] at q1
                                      obtain ⟨⟨rfl, -, -⟩, -, rfl⟩ := q1
                                      rw [hwt]; exact q9 py)
                                    have hf : wt.frozen? ⟨vg, l0.length * 3 + 1, none⟩ = false := by rw [hwt]; exact HE6.out _
                                    have s1 := (hct _).trans s1
                                    have p1 := (hct _).trans p1
                                    have e7 := (hct _).trans e7
                                    rw [← hwt]
                                    clear hct hwt lk1 lkq p0 e8
                                    go_wp2_with fail
                                    go_roundw
                                    case rel => exact ⟨k + 1, _, od, l0 ++ [(mx, py, (j : Int))], by omega, by go_num, HIN11, ⟨HROW2.out, HXO.out.1, by simp only [List.length_append, List.length_singleton] at hml ⊢; omega, HXO.out.2.1, HXO.out.2.2, bd_snoc (fun m hm => hmb m (List.mem_append_left _ hm)) ⟨by omega, by omega⟩⟩⟩
                                    case measure => simp [intOf]; omega
                                · as_aux_lemma =>
                                    have dy : ((my + 1) == px) = false := by simpa using hz2
                                    have HROW2 : Hid (rowK (thE (bAt AL) C mv ru) X s ord (k + 1) = (od, l0 ++ [(mx, my, mz)] ++ [(px, py, (j : Int))])) := Lib.hid (by rw [HROWJ.out, joinM_no _ _ _ _ _ _ _ (fun q => hz2 q.2)])
                                    go_wp2_with fail
                                    go_quiet (fail)
                                    obtain ⟨wt, hwt⟩ : ∃ wt, wt = w8.drewN nq := ⟨_, rfl⟩
                                    have hct : ∀ q, wt.cell? q = w8.cell? q := fun q => by rw [hwt]; rfl
                                    have HINt : Hid (In2 w1 wt ga wo.heap.size (z + 1) od.length (ru s) va vs acc _ _ od (l0 ++ [(mx, my, mz)])) := Lib.hid (by rw [hwt]; exact HINW.out.drewN nq)
                                    have lk1 := lkq nq
                                    have s1 := (hct _).trans s1
                                    have p0 := (hct _).trans p0
                                    have p1 := (hct _).trans p1
                                    have hgt : wo.heap.size + 1 ≤ wt.heap.size := by rw [hwt]; exact hgsl
                                    rw [← hwt] at lk1 ⊢
                                    clear hct hwt lkq
                                    go_wp2_with (at_builtin; go_must (refine wpList_app elMvs rfl (.tmp 130) (.tmp 139) rfl (wo.heap.size + 1) _ (l0.length + 1) 1 _ [.int .i64 px, .int .i64 py, .int .i64 (j : Int)] rfl (by have h := HINt.out.om; unfold OwV at h; rw [show ((l0 ++ [(mx, my, mz)]) : List Mv).length = (l0.length + 1) by simp] at h; exact h) rfl rfl (by simp [Value.oneCell']) (by omega) (by omega) hgt ?_); intro v11 w11 hown11 hg11 hat11; go_must (obtain ⟨A11, c11, rfl, -, -⟩ := own_len hown11); go_must (have hc11 := HINt.out.pushV_cells hg11); have t1 := hc11.1; have t2 := hc11.2; go_must (have HIN11 := Lib.hid (HINt.out.pushV hg11 (by rw [show ((l0 ++ [(mx, my, mz)]) : List Mv).length = (l0.length + 1) by simp]; exact hown11))); clear hown11 hg11 hat11 hc11)
                                    go_roundw
                                    case rel => exact ⟨k + 1, _, od, (l0 ++ [(mx, my, mz)]) ++ [(px, py, (j : Int))], by omega, by go_num, HIN11, ⟨HROW2.out, HXO.out.1, by simp only [List.length_append, List.length_singleton, List.length_nil] at hml ⊢; omega, HXO.out.2.1, HXO.out.2.2, bd_snoc hmb ⟨by omega, by omega⟩⟩⟩
                                    case measure => simp [intOf]; omega
                              · as_aux_lemma =>
                                  have dz : (mz == (j : Int)) = false := by simpa using hz1
                                  have HROW2 : Hid (rowK (thE (bAt AL) C mv ru) X s ord (k + 1) = (od, l0 ++ [(mx, my, mz)] ++ [(px, py, (j : Int))])) := Lib.hid (by rw [HROWJ.out, joinM_no _ _ _ _ _ _ _ (fun q => hz1 q.1)])
                                  go_wp2_with fail
                                  go_quiet (fail)
                                  obtain ⟨wt, hwt⟩ : ∃ wt, wt = w8.drewN nq := ⟨_, rfl⟩
                                  have hct : ∀ q, wt.cell? q = w8.cell? q := fun q => by rw [hwt]; rfl
                                  have HINt : Hid (In2 w1 wt ga wo.heap.size (z + 1) od.length (ru s) va vs acc _ _ od (l0 ++ [(mx, my, mz)])) := Lib.hid (by rw [hwt]; exact HINW.out.drewN nq)
                                  have lk1 := lkq nq
                                  have s1 := (hct _).trans s1
                                  have p0 := (hct _).trans p0
                                  have p1 := (hct _).trans p1
                                  have hgt : wo.heap.size + 1 ≤ wt.heap.size := by rw [hwt]; exact hgsl
                                  rw [← hwt] at lk1 ⊢
                                  clear hct hwt lkq
                                  go_wp2_with (at_builtin; go_must (refine wpList_app elMvs rfl (.tmp 130) (.tmp 139) rfl (wo.heap.size + 1) _ (l0.length + 1) 1 _ [.int .i64 px, .int .i64 py, .int .i64 (j : Int)] rfl (by have h := HINt.out.om; unfold OwV at h; rw [show ((l0 ++ [(mx, my, mz)]) : List Mv).length = (l0.length + 1) by simp] at h; exact h) rfl rfl (by simp [Value.oneCell']) (by omega) (by omega) hgt ?_); intro v11 w11 hown11 hg11 hat11; go_must (obtain ⟨A11, c11, rfl, -, -⟩ := own_len hown11); go_must (have hc11 := HINt.out.pushV_cells hg11); have t1 := hc11.1; have t2 := hc11.2; go_must (have HIN11 := Lib.hid (HINt.out.pushV hg11 (by rw [show ((l0 ++ [(mx, my, mz)]) : List Mv).length = (l0.length + 1) by simp]; exact hown11))); clear hown11 hg11 hat11 hc11)
                                  go_roundw
                                  case rel => exact ⟨k + 1, _, od, (l0 ++ [(mx, my, mz)]) ++ [(px, py, (j : Int))], by omega, by go_num, HIN11, ⟨HROW2.out, HXO.out.1, by simp only [List.length_append, List.length_singleton, List.length_nil] at hml ⊢; omega, HXO.out.2.1, HXO.out.2.2, bd_snoc hmb ⟨by omega, by omega⟩⟩⟩
                                  case measure => simp [intOf]; omega
                        · as_aux_lemma =>
                            rw [hnt] at y0
                            have lk2 := HIN8.out.m.look2 HWT.out
                            rw [idxI_nat, if_neg hin] at lk2
                            simp only [Option.getD_none, Option.isSome_none] at lk2
                            have hrj : rowK (thE (bAt AL) C mv ru) X s ord (k + 1) = (od ++ [t], joinM ms px py od.length) := by rw [HRS.out]; exact th_new HTC.out hnt hin
                            obtain ⟨w9, hput, hm9, hg9⟩ := HIN8.out.m.put HWT.out (v := od.length) (by omega) (by omega)
                            obtain ⟨p1, p2, p3⟩ := HIN8.out.putM hin hm9 hg9
                            have HP1 := Lib.hid p1; have HP2 := Lib.hid p2; have HP3 := Lib.hid p3
                            have HPR9 : Hid (Blk w9 pr 52 [.int .i64 px, .int .i64 py]) := Lib.hid (HPR8.out.grown hg9 (fun e => HIN8.out.m.blk HPR8.out (by cases e; rfl)))
                            have HOD2 : Hid (OrdP N (od ++ [t])) := Lib.hid (by
                              refine ⟨fun x hx => ?_, ?_⟩
                              · rcases List.mem_append.1 hx with hx | hx
                                · exact HXO0.out.1.lt x hx
                                · rw [List.mem_singleton] at hx; subst hx; exact htn
                              · refine List.nodup_append.2 ⟨HXO0.out.1.nd, by simp, fun a ha b hb => ?_⟩
                                rw [List.mem_singleton] at hb
                                subst hb
                                intro e; subst e; exact hin ha)
                            obtain ⟨od2, hod2⟩ : ∃ od2, od2 = od ++ [t] := ⟨_, rfl⟩
                            obtain ⟨j, hj⟩ : ∃ j, j = od.length := ⟨_, rfl⟩
                            have HOL : Hid (od2.length = j + 1) := Lib.hid (by rw [hod2, hj]; simp)
                            have HXO : Hid (OrdP N od2 ∧ ord.length ≤ od2.length ∧ od2[i]? = some s) := Lib.hid ⟨by rw [hod2]; exact HOD2.out, by rw [HOL.out, hj]; have := HXO0.out.2.1; omega, by rw [hod2, List.getElem?_append_left hiol]; exact HXO0.out.2.2⟩
                            have HLK : Hid (idxI od2 (t : Int) = some j) := Lib.hid (by rw [hod2, idxI_new hin, if_pos rfl, hj])
                            have HROWJ : Hid (rowK (thE (bAt AL) C mv ru) X s ord (k + 1) = (od2, joinM ms px py j)) := Lib.hid (by rw [hod2, hj]; exact hrj)
                            have HP4 : Hid (∀ w2 ov', w9.grownBy w2 (Value.slice (some ⟨ob2, 0, none⟩) od.length oc2).ownBlock → w2.ownsRow w1.heap.size 3 1 ov' (od.length + 1) (nv od ++ [.int .i64 (t : Int)]) → In2 w1 w2 ga wo.heap.size (z + 1) od2.length (ru s) va vs acc ov' vm od2 ms) := Lib.hid (fun w2 ov' h1 h2 => by
                              have := p3 w2 ov' h1 h2
                              rw [hod2, List.length_append]; exact this)
                            have hjN : j ≤ 60 := by omega
                            clear hnt hin hrj hm9 hg9 p1 p2 p3 HP3 HPR8 HXO0 HOD2 hod2 HIN8
                            go_upto_region 19 with (at_builtin; go_must (refine wpList_app elInts rfl (.tmp 88) (.tmp 90) rfl w1.heap.size _ od.length 1 (nv od) [.int .i64 (t : Int)] rfl HP1.out rfl rfl (by simp [Value.oneCell']) (by omega) (by omega) HP2.out ?_); intro v9 wA hownA hgA hatA; go_must (obtain ⟨AA, cA, rfl, -, -⟩ := own_len hownA); have HINW := Lib.hid (HP4.out _ _ hgA hownA); have HPR : Hid (Blk wA pr 52 [.int .i64 px, .int .i64 py]) := Lib.hid (HPR9.out.grown hgA (fun e => blk_own_ne HPR9.out HP1.out (by decide) e.symm)); clear hownA hgA hatA)
                            clear y0 lk2 hput hj
                            have s1 := HINW.out.gs_.cell (i := 1) rfl
                            have lk1 := HINW.out.m.look1 HWT.out
                            rw [HLK.out] at lk1
                            simp only [Option.getD_some] at lk1
                            have lkq : ∀ q, (Instr.lookup 59 (.map (some (z + 1))) (.int .i64 (t : Int)) false).run Tryz.prog (wA.drewN q) = .ok (.int .i64 (j : Int)) (wA.drewN q) := fun q => by
                              have h := (HINW.out.drewN q).m.look1 HWT.out
                              rw [HLK.out] at h
                              simp only [Option.getD_some] at h
                              exact h
                            have p0 := HPR.out.cell (i := 0) rfl
                            have p1 := HPR.out.cell (i := 1) rfl
                            have hgsl := HINW.out.gs_.lt
                            have hprl := HPR.out.lt
                            rcases List.eq_nil_or_concat ms with rfl | ⟨l0, ⟨mx, my, mz⟩, rfl⟩
                            · as_aux_lemma =>
                                obtain ⟨Av, cv, rfl, -, -⟩ := own_len HINW.out.om
                                have HROW2 : Hid (rowK (thE (bAt AL) C mv ru) X s ord (k + 1) = (od2, [] ++ [(px, py, (j : Int))])) := Lib.hid (by rw [HROWJ.out, joinM_nil]; rfl)
                                go_wp2_with fail
                                go_quiet (fail)
                                obtain ⟨wt, hwt⟩ : ∃ wt, wt = wA.drewN nq := ⟨_, rfl⟩
                                have hct : ∀ q, wt.cell? q = wA.cell? q := fun q => by rw [hwt]; rfl
                                have HINt : Hid (In2 w1 wt ga wo.heap.size (z + 1) od2.length (ru s) va vs acc _ _ od2 []) := Lib.hid (by rw [hwt]; exact HINW.out.drewN nq)
                                have lk1 := lkq nq
                                have s1 := (hct _).trans s1
                                have p0 := (hct _).trans p0
                                have p1 := (hct _).trans p1
                                have hgt : wo.heap.size + 1 ≤ wt.heap.size := by rw [hwt]; exact hgsl
                                rw [← hwt] at lk1 ⊢
                                clear hct hwt lkq
                                go_wp2_with (at_builtin; go_must (refine wpList_app elMvs rfl (.tmp 130) (.tmp 139) rfl (wo.heap.size + 1) _ 0 1 _ [.int .i64 px, .int .i64 py, .int .i64 (j : Int)] rfl (by have h := HINt.out.om; unfold OwV at h; rw [show ([] : List Mv).length = 0 by simp] at h; exact h) rfl rfl (by simp [Value.oneCell']) (by omega) (by omega) hgt ?_); intro v11 w11 hown11 hg11 hat11; go_must (obtain ⟨A11, c11, rfl, -, -⟩ := own_len hown11); go_must (have hc11 := HINt.out.pushV_cells hg11); have t1 := hc11.1; have t2 := hc11.2; go_must (have HIN11 := Lib.hid (HINt.out.pushV hg11 (by rw [show ([] : List Mv).length = 0 by simp]; exact hown11))); clear hown11 hg11 hat11 hc11)
                                go_roundw
                                case rel => exact ⟨k + 1, _, od2, [] ++ [(px, py, (j : Int))], by omega, by go_num, HIN11, ⟨HROW2.out, HXO.out.1, by simp only [List.length_append, List.length_singleton, List.length_nil] at hml ⊢; omega, HXO.out.2.1, HXO.out.2.2, bd_snoc hmb ⟨by omega, by omega⟩⟩⟩
                                case measure => simp [intOf]; omega
                            · rw [List.concat_eq_append] at HINW hml hmb HROWJ
                              have hmyb := hmb (mx, my, mz) (by simp)
                              simp only at hmyb
                              obtain ⟨vg, vc, rfl, e2, e3, e5, e6, e7, e8, e9⟩ := HINW.out.last
                              have hll : l0.length + 1 ≤ 70000 := by simp only [List.length_append, List.length_singleton] at hml; omega
                              have dl : decide ((0 : Int) ≤ (l0.length : Int)) = true := decide_eq_true (by omega)
                              have hme : (l0 ++ [(mx, my, mz)]).length = l0.length + 1 := by simp
                              unfold maxLen at e3
                              have HE9 := Lib.hid e9; have HE6 := Lib.hid e6
                              clear e9 e6
                              by_cases hz1 : mz = (j : Int)
                              · have dz : (mz == (j : Int)) = true := by simpa using hz1
                                by_cases hz2 : my + 1 = px
                                · as_aux_lemma =>
                                    have dy : ((my + 1) == px) = true := by simpa using hz2
                                    subst hz1
                                    have HROW2 : Hid (rowK (thE (bAt AL) C mv ru) X s ord (k + 1) = (od2, l0 ++ [(mx, py, (j : Int))])) := Lib.hid (by rw [HROWJ.out, joinM_yes _ _ _ _ _ _ hz2])
                                    go_wp2_with fail
                                    go_quiet (fail)
                                    obtain ⟨wt, hwt⟩ : ∃ wt, wt = wA.drewN nq := ⟨_, rfl⟩
                                    have hct : ∀ q, wt.cell? q = wA.cell? q := fun q => by rw [hwt]; rfl
                                    have HIN11 : Hid (In2 w1 (wt.setCell ⟨vg, l0.length * 3 + 1, none⟩ (.int .i64 py)) ga wo.heap.size (z + 1) od2.length (ru s) va vs acc _ _ od2 (l0 ++ [(mx, py, (j : Int))])) := Lib.hid (by
                                      obtain ⟨vg', vc', q1, _, _, _, _, _, _, q9⟩ := (HINW.out.drewN nq).last
                                      simp only [Value.slice.injEq, Option.some.injEq, Addr.mk.injEq] at q1
                                      obtain ⟨⟨rfl, -, -⟩, -, rfl⟩ := q1
                                      rw [hwt]; exact q9 py)
                                    have hf : wt.frozen? ⟨vg, l0.length * 3 + 1, none⟩ = false := by rw [hwt]; exact HE6.out _
                                    have s1 := (hct _).trans s1
                                    have p1 := (hct _).trans p1
                                    have e7 := (hct _).trans e7
                                    rw [← hwt]
                                    clear hct hwt lk1 lkq p0 e8
                                    go_wp2_with fail
                                    go_roundw
                                    case rel => exact ⟨k + 1, _, od2, l0 ++ [(mx, py, (j : Int))], by omega, by go_num, HIN11, ⟨HROW2.out, HXO.out.1, by simp only [List.length_append, List.length_singleton] at hml ⊢; omega, HXO.out.2.1, HXO.out.2.2, bd_snoc (fun m hm => hmb m (List.mem_append_left _ hm)) ⟨by omega, by omega⟩⟩⟩
                                    case measure => simp [intOf]; omega
                                · as_aux_lemma =>
                                    have dy : ((my + 1) == px) = false := by simpa using hz2
                                    have HROW2 : Hid (rowK (thE (bAt AL) C mv ru) X s ord (k + 1) = (od2, l0 ++ [(mx, my, mz)] ++ [(px, py, (j : Int))])) := Lib.hid (by rw [HROWJ.out, joinM_no _ _ _ _ _ _ _ (fun q => hz2 q.2)])
                                    go_wp2_with fail
                                    go_quiet (fail)
                                    obtain ⟨wt, hwt⟩ : ∃ wt, wt = wA.drewN nq := ⟨_, rfl⟩
                                    have hct : ∀ q, wt.cell? q = wA.cell? q := fun q => by rw [hwt]; rfl
                                    have HINt : Hid (In2 w1 wt ga wo.heap.size (z + 1) od2.length (ru s) va vs acc _ _ od2 (l0 ++ [(mx, my, mz)])) := Lib.hid (by rw [hwt]; exact HINW.out.drewN nq)
                                    have lk1 := lkq nq
                                    have s1 := (hct _).trans s1
                                    have p0 := (hct _).trans p0
                                    have p1 := (hct _).trans p1
                                    have hgt : wo.heap.size + 1 ≤ wt.heap.size := by rw [hwt]; exact hgsl
                                    rw [← hwt] at lk1 ⊢
                                    clear hct hwt lkq
                                    go_wp2_with (at_builtin; go_must (refine wpList_app elMvs rfl (.tmp 130) (.tmp 139) rfl (wo.heap.size + 1) _ (l0.length + 1) 1 _ [.int .i64 px, .int .i64 py, .int .i64 (j : Int)] rfl (by have h := HINt.out.om; unfold OwV at h; rw [show ((l0 ++ [(mx, my, mz)]) : List Mv).length = (l0.length + 1) by simp] at h; exact h) rfl rfl (by simp [Value.oneCell']) (by omega) (by omega) hgt ?_); intro v11 w11 hown11 hg11 hat11; go_must (obtain ⟨A11, c11, rfl, -, -⟩ := own_len hown11); go_must (have hc11 := HINt.out.pushV_cells hg11); have t1 := hc11.1; have t2 := hc11.2; go_must (have HIN11 := Lib.hid (HINt.out.pushV hg11 (by rw [show ((l0 ++ [(mx, my, mz)]) : List Mv).length = (l0.length + 1) by simp]; exact hown11))); clear hown11 hg11 hat11 hc11)
                                    go_roundw
                                    case rel => exact ⟨k + 1, _, od2, (l0 ++ [(mx, my, mz)]) ++ [(px, py, (j : Int))], by omega, by go_num, HIN11, ⟨HROW2.out, HXO.out.1, by simp only [List.length_append, List.length_singleton, List.length_nil] at hml ⊢; omega, HXO.out.2.1, HXO.out.2.2, bd_snoc hmb ⟨by omega, by omega⟩⟩⟩
                                    case measure => simp [intOf]; omega
                              · as_aux_lemma =>
                                  have dz : (mz == (j : Int)) = false := by simpa using hz1
                                  have HROW2 : Hid (rowK (thE (bAt AL) C mv ru) X s ord (k + 1) = (od2, l0 ++ [(mx, my, mz)] ++ [(px, py, (j : Int))])) := Lib.hid (by rw [HROWJ.out, joinM_no _ _ _ _ _ _ _ (fun q => hz1 q.1)])
                                  go_wp2_with fail
                                  go_quiet (fail)
                                  obtain ⟨wt, hwt⟩ : ∃ wt, wt = wA.drewN nq := ⟨_, rfl⟩
                                  have hct : ∀ q, wt.cell? q = wA.cell? q := fun q => by rw [hwt]; rfl
                                  have HINt : Hid (In2 w1 wt ga wo.heap.size (z + 1) od2.length (ru s) va vs acc _ _ od2 (l0 ++ [(mx, my, mz)])) := Lib.hid (by rw [hwt]; exact HINW.out.drewN nq)
                                  have lk1 := lkq nq
                                  have s1 := (hct _).trans s1
                                  have p0 := (hct _).trans p0
                                  have p1 := (hct _).trans p1
                                  have hgt : wo.heap.size + 1 ≤ wt.heap.size := by rw [hwt]; exact hgsl
                                  rw [← hwt] at lk1 ⊢
                                  clear hct hwt lkq
                                  go_wp2_with (at_builtin; go_must (refine wpList_app elMvs rfl (.tmp 130) (.tmp 139) rfl (wo.heap.size + 1) _ (l0.length + 1) 1 _ [.int .i64 px, .int .i64 py, .int .i64 (j : Int)] rfl (by have h := HINt.out.om; unfold OwV at h; rw [show ((l0 ++ [(mx, my, mz)]) : List Mv).length = (l0.length + 1) by simp] at h; exact h) rfl rfl (by simp [Value.oneCell']) (by omega) (by omega) hgt ?_); intro v11 w11 hown11 hg11 hat11; go_must (obtain ⟨A11, c11, rfl, -, -⟩ := own_len hown11); go_must (have hc11 := HINt.out.pushV_cells hg11); have t1 := hc11.1; have t2 := hc11.2; go_must (have HIN11 := Lib.hid (HINt.out.pushV hg11 (by rw [show ((l0 ++ [(mx, my, mz)]) : List Mv).length = (l0.length + 1) by simp]; exact hown11))); clear hown11 hg11 hat11 hc11)
                                  go_roundw
                                  case rel => exact ⟨k + 1, _, od2, (l0 ++ [(mx, my, mz)]) ++ [(px, py, (j : Int))], by omega, by go_num, HIN11, ⟨HROW2.out, HXO.out.1, by simp only [List.length_append, List.length_singleton, List.length_nil] at hml ⊢; omega, HXO.out.2.1, HXO.out.2.2, bd_snoc hmb ⟨by omega, by omega⟩⟩⟩
                                  case measure => simp [intOf]; omega
                  · as_aux_lemma =>
                      --Q3
                      have dk : decide ((k : Int) < (P : Int)) = false := decide_eq_false (by omega)
                      have ek : k = X.length := by rw [HXL.out]; omega
                      have hx := HX.out
                      have hil : i + 1 ≤ od.length := (List.getElem?_eq_some_iff.1 hx.2.2.2.2.1).1
                      have hro : rowOf (thE (bAt AL) C mv ru) X s ord = (od, ms) := by rw [← rowK_all (k := k) (by omega)]; exact hx.1
                      have hbr := build_round HI.out.b HSO.out
                      rw [hro] at hbr
                      have HSH : Hid (ShI N (thE (bAt AL) C mv ru) X (i + 1) od (acc ++ [(ru s, ms)])) := Lib.hid ⟨hbr, hx.2.1, by rw [List.length_append, HI.out.l]; rfl, fun q hq => by
                        rcases List.mem_append.1 hq with hq | hq
                        · exact HI.out.m q hq
                        · rw [List.mem_singleton] at hq; subst hq; have := hx.2.2.1; show ms.length ≤ _; omega⟩
                      have hal : acc.length ≤ 60 := by rw [HI.out.l]; omega
                      have s0 := HIN.out.gs_.cell (i := 0) rfl
                      have s1 := HIN.out.gs_.cell (i := 1) rfl
                      have a0 := HIN.out.va_.cell (i := 0) rfl
                      have h1v := own1 HIN.out.om
                      have hinb := HIN.out.base
                      clear hx hro hbr ek HX HI hz1
                      go_wp2_with (at_builtin; go_must (refine wpList_app elSts rfl (.tmp 144) (.tmp 146) rfl w1.heap.size va acc.length 1 (stc acc vs) [.int .i64 (ru s), vm] rfl HIN.out.os.row rfl rfl (by intro u hu; simp only [List.mem_cons, List.not_mem_nil, or_false] at hu; rcases hu with rfl | rfl; exact rfl; exact h1v) (by omega) (by omega) hinb ?_); intro v8 w8 hown8 hg8 hat8; go_must (obtain ⟨A8, c8, rfl, -, -⟩ := own_len hown8); have HR8 := Lib.hid (HIN.out.pushS hg8 hown8); have a1 := (HIN.out.pushS_cells hg8).1; have a2 := (HIN.out.pushS_cells hg8).2; clear hown8 hg8 hat8)
                      go_roundw
                      case rel => exact ⟨i + 1, _, vs ++ [vm], od, acc ++ [(ru s, ms)], hil, by go_num, Lib.hid (by rw [HZ.out]; exact HR8.out.1), HR8.out.2.1, Lib.hid (by rw [HZ.out]; exact HR8.out.2.2.1), Lib.hid (by rw [HZ.out]; exact HR8.out.2.2.2.1), HR8.out.2.2.2.2, HSH⟩
                      case measure => simp [intOf]; omega
          · as_aux_lemma =>
              --Q4
              have dio : decide ((i : Int) < (ord.length : Int)) = false := decide_eq_false (by omega)
              have ei : i = ord.length := by omega
              have a0 := HVA.out.cell (i := 0) rfl
              have hgr := HGR.out wr HBz.out
              have r0 := hgr.cell (i := 0) rfl
              have r1 := hgr.frozen 0
              have r2 := hgr.lt
              have HR9 := Lib.hid (hgr.set_ 0 va)
              obtain ⟨Av, cv, hva, -, -⟩ := own_len HOS.out.row
              obtain ⟨Ao, co, rfl, -, -⟩ := own_len HOV.out
              have hos9 : OwS (wr.setCell ⟨g + 1 + 1, 0, none⟩ va) z va vs acc := HOS.out.far (p := ⟨g + 1 + 1, 0, none⟩) (fun e => by have := (HOS.out.row.lt _ e).1; simp at this; omega) (fun k u hu e => by
                have hkl : k < acc.length := by rw [← HOS.out.ln]; exact (List.getElem?_eq_some_iff.1 hu).1
                have := (World.ownsRow.lt (HOS.out.cl k u _ hu (List.getElem?_eq_getElem hkl)) _ e).1
                simp at this; omega)
              have HO9 := Lib.hid hos9
              have HB9 := Lib.hid ((HBK.out wr HBz.out).setCell (p := ⟨g + 1 + 1, 0, none⟩) (show g ≤ g + 1 + 1 by omega) va)
              have HI2 : Hid (acc.length = ord.length ∧ ShI N (thE (bAt AL) C mv ru) X ord.length ord acc) := Lib.hid ⟨by rw [HI.out.l]; exact ei, by have := HI.out; rw [ei] at this; exact this⟩
              subst hva
              clear hgr hos9 ei HI
              go_wp2_with fail
              refine bodyPost_ret (results_cell_row rfl _ _ (g + 1 + 1) _ #[.slice Av acc.length cv] _ _ rfl HR9.out Tryz.underlying24 rfl (by kernel_rfl)) rfl ?_
              have hgw := HG.out
              exact ⟨Av, cv, acc, rfl, by rw [HI2.out.1]; exact hol, HO9.out.rdS, hgw ▸ HB9.out, AL, HLIVE.out, .inr ⟨HBE.out, ord, HI2.out.2⟩⟩
end Go.Proofs.YthikgdogfkjioaaGreatDoor
