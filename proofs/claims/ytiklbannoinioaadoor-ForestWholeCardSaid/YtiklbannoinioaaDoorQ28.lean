/- Count: how many trees there are, as a text. · Trees: the first trees of a sentence. · Plain: what is counted is how many trees there are. -/
import Derived.Test.YtiklbannoinioaaDoorQ25
import Derived.Test.YtiklbannoinioaaDoorQ27
import Derived.Test.YtiklbannoinioaaDoorQ18
import Derived.Test.YtiklbannoinioaaDoorQ16
namespace Go.Proofs.YtiklbannoinioaaDoor
open Go.RowKit BigFrame Go.Maps
set_option linter.unusedVariables false
set_option linter.unusedSimpArgs false
set_option maxRecDepth 100000

/-- What counting the whole gives. -/
noncomputable def cntW (G : Gr) (inp : List Int) : CS × Nat := cntP (chT G inp) G inp (chT G inp).L.length [] ⟨[], false⟩ (wholeX G inp)
noncomputable def cntS (G : Gr) (inp : List Int) : List UInt8 := if hasT G inp = true then (if (cntW G inp).1.many = true then [109, 97, 110, 121] else Lib.decDigits (cntW G inp).2) else [48]
theorem Chart.len {G : Gr} {inp : List Int} {k : Nat} {I : Nat → List K3} {L : List K3} (h : Chart G inp k I L) (hk : k ≤ 8) (hN : G.names ≤ 8) : L.length ≤ 512 := by
  have hm : (L.map fun x => (x.1 * 8 + x.2.1) * 8 + x.2.2).Nodup := by
    unfold List.Nodup
    rw [List.pairwise_map]
    refine List.Pairwise.imp_of_mem ?_ h.nd
    intro a b ha hb hne e
    have h1 := h.lt a ha
    have h2 := h.lt b hb
    exact hne (Prod.ext (by omega) (Prod.ext (by omega) (by omega)))
  have := nodup_subK _ (List.range 512) hm (fun a ha => by
    obtain ⟨x, hx, rfl⟩ := List.mem_map.1 ha
    have := h.lt x hx
    rw [List.mem_range]
    omega)
  simpa using this
section
variable {w w' : World} {B c m2 m3 nN : Nat} {G : Gr} {Ap Al As : Option Addr} {np cp nl cl ns cs : Nat} {Ai : Option Addr} {ni ci : Nat} {inp : List Int} {I : Nat → List K3} {L : List K3}
/-- A chart just made, as counting reads it. -/
theorem NewC.ct (h : NewC w w' B c m2 m3 nN G Ap Al As np cp nl cl ns cs Ai ni ci inp I L) (hk : GOk G) (hnN : G.names = (nN : Int)) (hm : ni ≤ ci ∧ ci ≤ maxLen) (hli : inp.length = ni) (hn : ni ≤ 100) (hB : B ≤ w.heap.size) (hw : w.heap.size ≤ w'.heap.size) :
    ∃ vs0, CtM w' (fun b => b < w'.heap.size ∧ b ≠ m2 ∧ b ≠ m3) B c m2 m3 w'.heap.size vs0 G Ap Al As np cp nl cl ns cs Ai ni ci inp (chT G inp) [] ⟨[], false⟩ := by
  have hf := h.fi
  rw [← hli] at hf
  have hc := chT_filled hf
  obtain ⟨e1, e2⟩ := hf.det hk (by omega) hc
  obtain ⟨bn, bi, base1, base2, m1, cb, vs, ss, b3, nz, h1, h2, h3, h4⟩ := h.ex
  have hN := hk.n1
  have hlo := h.lo
  have hne := h.ne
  have hsp := h2.sp
  rw [← e2] at hsp
  have far : ∀ (g : Nat) (t : TypeId) (us : List Value), Blk w' g t us → g < w'.heap.size ∧ g ≠ m2 ∧ g ≠ m3 := fun g t us hg => ⟨hg.lt, fun e => KMap.ne h1.k2 hg e.symm, fun e => KMap.ne h1.k3 hg e.symm⟩
  obtain ⟨c1, c2, us, hu⟩ := h1.bic
  have hl := h1.ln
  have hch : ChIn w' (fun b => b < w'.heap.size ∧ b ≠ m2 ∧ b ≠ m3) B c m3 G Ap Al As np cp nl cl ns cs Ai ni ci inp (chT G inp) := by
    refine ⟨fun k hk => ⟨by omega, by omega, by omega⟩, far _ _ _ h1.cC, h1.cC.cell (i := 0) rfl, h1.cC.cell (i := 1) rfl, h1.cC.cell (i := 2) rfl, h1.cC.cell (i := 3) rfl, h1.gi, h1.cC.cell (i := 6) rfl, hli, hm, h1.ri, ⟨bn, nN, nN, h1.cC.cell (i := 7) rfl, hnN.symm, Nat.le_refl _, by unfold maxLen; omega, far _ _ _ h1.bB.mm, fun a ha => h1.bB.rd (fun b us hb => far _ _ _ hb) ha⟩, ⟨bi, cb, h1.cC.cell (i := 8) rfl, c1, c2, far _ _ _ hu, fun k hk => ?_⟩, ⟨m1, nz, h1.cC.cell (i := 9) rfl, ⟨KMap.lt hsp, h3.1, h3.2.1⟩, hsp⟩, h1.cC.cell (i := 11) rfl⟩
    have hp : ss[k]? = some (ss.getD k (0, 0)) := by
      rw [List.getD_eq_getElem?_getD, List.getElem?_eq_getElem (by omega)]
      rfl
    have hF := h2.fl k _ (by omega) hp
    have hj := e1 k (by rw [hli]; omega)
    rw [← hj] at hF
    obtain ⟨lv, a, b, f, d, e⟩ := hF
    have := h4 _ (List.mem_of_getElem? hp)
    exact ⟨_, _, h1.ptr hp, far _ _ _ a, a.cell (i := 1) rfl, ⟨KMap.lt d, by omega, by omega⟩, ⟨_, f, d, e⟩⟩
  refine ⟨_, hch, fun b hb => hb, Nat.le_refl _, ?_, h1.cC.cell (i := 10) rfl, (by exact h1.cC : Blk w' c 59 ((chC G Ap Al As np cp nl cl ns cs Ai ni ci (.slice (some ⟨bn, 0, none⟩) nN nN) (.slice (some ⟨bi, 0, none⟩) (ni + 1) cb) m1 m2 m3).set 12 (.bool false))), by unfold chC; simp, ⟨_, h1.k2, fun x hx => ⟨fun _ => rfl, fun v hv => by cases hv⟩⟩, ⟨hne, KMap.lt h1.k2, KMap.lt h1.k3, h1.cC.lt⟩, by omega⟩
  unfold Opn SpM
  exact KMap.congr h1.k3 (fun x _ => by simp)
end
set_option maxHeartbeats 8000000 in
theorem pCount_any' (G : Gr) (Ap Al As : Option Addr) (np cp nl cl ns cs : Nat) (Ai : Option Addr) (ni ci : Nat) (inp : List Int) (w : World) (B : Nat) (hB : B ≤ w.heap.size) (hgl : 0 < B) (hp : Pow w) (hG : GrIn w B G Ap Al As np cp nl cl ns cs) (hk : GOk G) (hn : ni ≤ 7) (hm : ni ≤ ci ∧ ci ≤ maxLen) (hli : inp.length = ni) (hri : RdI w B Ai inp) (hR : ∀ p, p < G.prods.length → (rtN G p).length ≤ 5) (hP : G.prods.length ≤ 14) (hN8 : G.names ≤ 8) :
    Calls Tryd.prog 8 #[.agg #[.int .i64 G.terms, .int .i64 G.names, .int .i64 G.start, .slice Ap np cp, .slice Al nl cl, .slice As ns cs], .slice Ai ni ci] w fun e w' => e = .returned (bs (cntS G inp)) ∧ Below w.heap.size w w' ∧ Filled G inp (chT G inp).I (ni + 1) (chT G inp).L := by
  obtain ⟨nN, hnN⟩ : ∃ nN : Nat, G.names = (nN : Int) := ⟨G.names.toNat, by have := hk.n1; have := hk.n0; omega⟩
  obtain ⟨st, hst⟩ : ∃ st : Nat, G.start = (st : Int) := ⟨G.start.toNat, by have := hk.s0; omega⟩
  obtain ⟨hb0, hs0, gb⟩ := gbox w G Ap Al As np cp nl cl ns cs
  have hc := newChart_any G Ap Al As np cp nl cl ns cs Ai ni ci nN inp (w.alloc (.cells #[.int .i64 G.terms, .int .i64 G.names, .int .i64 G.start, .slice Ap np cp, .slice Al nl cl, .slice As ns cs] 25)) B (Nat.le_trans hB hb0.size) (hG.below (hb0.mono hB)) hk (by omega) hm hli (hri.below (hb0.mono hB)) hnN
  have HC := Lib.hid hc; have HB0 := Lib.hid hb0; have HK := Lib.hid hk; have HM := Lib.hid hm; have HLI := Lib.hid hli; have HB := Lib.hid hB; have HNN := Lib.hid hnN; have HST := Lib.hid hst; have HRR := Lib.hid hR; have HPOW := Lib.hid hp; have HGL := Lib.hid hgl
  have HPL : Hid (G.prods.length = np) := Lib.hid hG.p.len.1
  have hc0 := gb.c0; have hc1 := gb.c1; have hc2 := gb.c2; have hc3 := gb.c3; have hc4 := gb.c4; have hc5 := gb.c5
  clear hc hb0 gb hG hB hli hri hnN hst hs0 hm hk hR hp hgl
  go_enter Tryd.func8, Tryd.ntmps8
  go_wp2_with fail
  refine HC.out.mono ?_
  rintro e w1 ⟨c, m2, m3, I, L, rfl, hb1, hN⟩
  have hbw := HB0.out.trans (hb1.mono HB0.out.size)
  obtain ⟨hch, hop, hfi⟩ := hN.ch HK.out HNN.out HM.out HLI.out (by omega) (Nat.le_trans HB.out HB0.out.size) hb1.size
  obtain ⟨vs0, hct⟩ := hN.ct HK.out HNN.out HM.out HLI.out (by omega) (Nat.le_trans HB.out HB0.out.size) hb1.size
  have hlo := hN.lo
  have hwh := whole_any G Ap Al As np cp nl cl ns cs Ai ni ci inp (chT G inp) _ B c m3 w1 hct.ch st HST.out
  have hchart := hfi.chart HK.out (by omega)
  have HBW := Lib.hid hbw; have HFI := Lib.hid hfi; have HCT := Lib.hid hct; have HWH := Lib.hid hwh; have HLO : Hid (w.heap.size ≤ c ∧ w.heap.size ≤ m2 ∧ w.heap.size ≤ m3) := Lib.hid (by have := HB0.out.size; omega); have HCHT := Lib.hid hchart
  unfold kV at HWH
  clear hb1 hN hbw hop hfi hwh hch hct HC hc0 hc1 hc2 hc3 hc4 hc5 HB0 hlo hchart
  go_wp2_with fail
  refine HWH.out.mono ?_
  rintro e w2 ⟨rfl, hb2⟩
  have hst1 := HK.out.s1; have hst0 := HK.out.n1; have hst2 := HST.out
  have hx : inK (st, 0, ni) := ⟨by simp only; omega, by simp only; omega, by simp only; omega⟩
  have hct2 := HCT.out.bel hb2
  have hsd := stands_any G Ap Al As np cp nl cl ns cs Ai ni ci inp (chT G inp) _ B c m3 (st, 0, ni) hx w2 hct2.ch
  have HSD := Lib.hid hsd; have HB2 := Lib.hid (HBW.out.trans (hb2.mono HBW.out.size)); have HCT2 := Lib.hid hct2; have HX := Lib.hid hx
  unfold kV at HSD
  clear hsd hb2 HWH hst1 hst0 hst2 hx hct2
  go_wp2_with fail
  refine HSD.out.mono ?_
  rintro e w3 ⟨rfl, hb3⟩
  have HB3 := Lib.hid (HB2.out.trans (hb3.mono HB2.out.size))
  have HCT3 := Lib.hid (HCT2.out.bel hb3)
  have hwx : wholeX G inp = (st, 0, ni) := by unfold wholeX; rw [HST.out, Int.toNat_natCast, HLI.out]
  have HWX := Lib.hid hwx
  by_cases q : (st, 0, ni) ∈ (chT G inp).L
  rotate_left
  · have d : Hid (decide ((st, 0, ni) ∈ (chT G inp).L) = false) := Lib.hid (decide_eq_false q)
    have hh : cntS G inp = [48] := by unfold cntS hasT; rw [hwx, if_neg (by simp [q])]
    have HH := Lib.hid hh
    rw [d.out]
    clear hb3 hwx q hh
    go_wp2_with fail
    go_ret
    exact ⟨ret_eq (by rw [HH.out]; rfl), HB3.out, HFI.out⟩
  · have d : Hid (decide ((st, 0, ni) ∈ (chT G inp).L) = true) := Lib.hid (decide_eq_true q)
    have hh : cntS G inp = if (cntW G inp).1.many = true then [109, 97, 110, 121] else Lib.decDigits (cntW G inp).2 := by unfold cntS hasT; rw [hwx, if_pos (decide_eq_true q)]
    have HH := Lib.hid hh
    rw [d.out]
    have HQ := Lib.hid q
    have hwh := whole_any G Ap Al As np cp nl cl ns cs Ai ni ci inp (chT G inp) _ B c m3 w3 HCT3.out.ch st HST.out
    have HWH := Lib.hid hwh
    unfold kV at HWH
    clear hwx q hh hb3 hwh
    go_wp2_with fail
    refine HWH.out.mono ?_
    rintro e w4 ⟨rfl, hb4⟩
    have hct4 := HCT3.out.bel hb4
    have hst1 := HK.out.s1; have hst0 := HK.out.n1; have hst2 := HST.out
    have hC : ∀ x ∈ (chT G inp).L, x.2.1 ≤ x.2.2 ∧ x.1 < 8 := fun x hx => by have := HCHT.out.lt x hx; omega
    have h7 : ∀ x ∈ (chT G inp).L, x.2.2 ≤ ni := fun x hx => by have := HCHT.out.lt x hx; omega
    have hca := count_any (fun b => b < w1.heap.size ∧ b ≠ m2 ∧ b ≠ m3) B c m2 m3 w1.heap.size vs0 G Ap Al As np cp nl cl ns cs Ai ni ci inp (chT G inp) HK.out hn HPL.out HRR.out hP hN8 h7 hC (fun x hx => (HCHT.out.lt x hx).2.2) (chT G inp).L.length [] (by have := HCHT.out.len (by omega) hN8; simp; omega) (Fuel.start _ _) ⟨[], false⟩ (st, 0, ni) ⟨.nil, fun e he => by cases he⟩ HQ.out w4 hct4
    have hbd := cnt_top (cnt_bd (inp := inp) (G := G) hC (fun x hx => by have := h7 x hx; omega) HRR.out hP (chT G inp).L.length []) (σ := ⟨[], false⟩) (y := (st, 0, ni)) ⟨.nil, fun e he => by cases he⟩ HQ.out (by simp only; omega)
    have hcw : cntP (chT G inp) G inp (chT G inp).L.length [] ⟨[], false⟩ (st, 0, ni) = cntW G inp := by unfold cntW; rw [HWX.out]
    rw [hcw] at hca hbd
    have HCA := Lib.hid hca; have HBD := Lib.hid hbd.2
    have HB4 := Lib.hid (HB3.out.trans (hb4.mono HB3.out.size)); have HCT4 := Lib.hid hct4
    unfold kV at HCA
    clear hca hbd hcw hC h7 hct4 hb4 hst1 hst0 hst2 HWH
    go_wp2_with fail
    refine HCA.out.mono ?_
    rintro e w5 ⟨v5, rfl, hv5, hct5, hk5⟩
    obtain ⟨A5, n5, c5, l5, rfl, rd5, hl5, nm5, vb5, hE5⟩ := hv5.rd
    have hn5 := hE5 HBD.out
    have hb5 : Below w.heap.size w w5 := HB4.out.trans (hk5.bel HB4.out.size (fun b hb e => by have := HLO.out; rcases e with e | e | e <;> omega))
    have v1 := hct5.cB
    have v2 : (vs0.set 12 (.bool (cntW G inp).1.many))[12]? = some (.bool (cntW G inp).1.many) := List.getElem?_set_self hct5.c12
    have y12 := v1.cell v2
    have hpw := HPOW.out.below (Nat.lt_of_lt_of_le HGL.out HB.out) hb5
    have htx := textN_any A5 n5 c5 l5 w5 w5.heap.size (by have := HGL.out; have := HB.out; have := hb5.size; omega) (Nat.le_refl _) rd5 hl5 (by omega) nm5 hpw
    rw [vb5] at htx
    have HTX := Lib.hid htx; have HB5 := Lib.hid hb5
    clear htx hpw v1 v2 hct5 hk5 hv5 rd5 hl5 nm5 vb5 hE5 hb5 HCA
    cases em : (cntW G inp).1.many with
    | true =>
      rw [em] at y12 HH
      go_wp2_with fail
      go_ret
      exact ⟨ret_eq (by rw [HH.out]; rfl), HB5.out, HFI.out⟩
    | false =>
      rw [em] at y12 HH
      go_wp2_with fail
      refine HTX.out.mono ?_
      rintro e w6 ⟨rfl, hb6⟩
      have HB6 := Lib.hid (HB5.out.trans (hb6.mono HB5.out.size))
      clear hb6 HTX
      go_wp2_with fail
      go_ret
      exact ⟨ret_eq (by rw [HH.out]; rfl), HB6.out, HFI.out⟩
end Go.Proofs.YtiklbannoinioaaDoor
namespace Go.Proofs.YtiklbannoinioaaDoor
attribute [local go_sem] Oper.semAt_some
open Go.RowKit Go.Shelf BigFrame Go.Maps
set_option linter.unusedVariables false
set_option linter.unusedSimpArgs false
set_option maxRecDepth 100000

theorem elT2 : ElTy Tryd.prog 28 34 1 8 (.pointer none) := ⟨Tryd.underlying28, by kernel_rfl, rfl, by decide⟩
theorem run_min2 (P : Program) (a b m : Int) (h : m = min a b) : ∀ (ts : Array TypeId) (t : TypeId) (w : World), (Builtin.min_ ts t #[.int .i64 a, .int .i64 b]).run P w = .ok (.int .i64 m) w := by
  intro ts t w
  rw [run_min_int2, show (if b < a then b else a) = m from by split <;> omega]
/-- Trees gathered: a row of the call's own, of trees that nobody turns. -/
structure TsR (base lb : Nat) (pre : List Tr) (v : Value) (vs : List Value) (X R : Nat → Prop) (W : World) : Prop where
  lB : Blk W lb 28 [v]
  ow : W.ownsRow base 34 1 v pre.length vs
  el : ∀ (j : Nat) (t : Tr), pre[j]? = some t → ∃ u, vs[j]? = some u ∧ TrIn W R u t
  xe : X = fun k => k = lb ∨ v.ownBlock = some k
section
variable {base lb m N : Nat} {pre : List Tr} {v : Value} {vs : List Value} {X R R' : Nat → Prop} {W W' : World}
theorem TsR.own (h : TsR base lb pre v vs X R W) (hs : Sep m X R W) (hr : ∀ k, R k → R' k) (hk : Kp (fun k => (N ≤ k ∧ ¬ X k ∧ ¬ R' k) ∨ k = m) W W') : TsR base lb pre v vs X R' W' := by
  have hxl : X lb := by rw [h.xe]; exact .inl rfl
  have hxo : ∀ g, v.ownBlock = some g → X g := fun g e => by rw [h.xe]; exact .inr e
  refine ⟨blk_kp h.lB hk (fun e => e.elim (fun e => e.2.1 hxl) (fun e => hs.xm (e ▸ hxl))), own_kp h.ow hk (fun g e e2 => e2.elim (fun e2 => e2.2.1 (hxo g e)) (fun e2 => hs.xm (e2 ▸ hxo g e))), fun j t hj => ?_, h.xe⟩
  obtain ⟨u, h1, h2⟩ := h.el j t hj
  exact ⟨u, h1, TrIn.keep (fun k q => hk.block k (hs.rs k q) (fun e => e.elim (fun e => e.2.2 (hr k q)) (fun e => hs.rm (e ▸ q)))) hr h2⟩
end
/-- The trees told. -/
noncomputable def tsT (G : Gr) (inp : List Int) (n : Nat) : List Tr := if hasT G inp = true then (treesT (chT G inp) G inp (chT G inp).L.length [] (wholeX G inp)).take n else []
structure TrsOut (G : Gr) (inp : List Int) (n ni : Nat) (w w' : World) (v : Value) : Prop where
  bel : Below w.heap.size w w'
  fi : Filled G inp (chT G inp).I (ni + 1) (chT G inp).L
  ex : ∃ vs, w'.ownsRow w.heap.size 34 1 v (tsT G inp n).length vs ∧ ∃ R : Nat → Prop, (∀ k, R k → k < w'.heap.size) ∧ ∀ (j : Nat) (t : Tr), (tsT G inp n)[j]? = some t → ∃ u, vs[j]? = some u ∧ TrIn w' R u t
theorem wpListIn_append_run {F : Fence} {n : Nat} {P : Program} {w w' : World} {ops : Array Oper} {rest : List Oper} {o : Oper} {a : Act} {Q : Exit → Act → World → Prop} (hg : o.guard = none) (s x : Operand) (t : TypeId) (hop : o.op = Op.call { callee := Callee.builtin Builtin.append, args := #[s, x], argTypes := #[t, t] })
    (v u r : Value) (hs : a.eval s = v) (hx : a.eval x = u) (hrun : (Builtin.append_ #[t, t] o.type #[v, u]).run P w = .ok r w') (h : wpListIn F n P ops Q rest (a.put o.dst r) w') : wpListIn F n P ops Q (o :: rest) a w := by
  refine wpListIn_plain hg fun K hK => ?_
  unfold Oper.wpIn
  refine ⟨?_, ?_⟩
  · simp [Oper.about, hop, resolve, Target.leads, Sem.run_pure]
  · rw [Oper.semAt_plain F _ _ (by rw [hop]; intro c hc'; cases hc')]
    simp [execOp, hop, resolve, invoke, builtin, hs, hx, hrun, Result.andThen]
    exact hK _ _ h
set_option maxHeartbeats 8000000 in
theorem pTrees_any (G : Gr) (Ap Al As : Option Addr) (np cp nl cl ns cs : Nat) (Ai : Option Addr) (ni ci n : Nat) (inp : List Int) (w : World) (B : Nat) (hB : B ≤ w.heap.size) (hG : GrIn w B G Ap Al As np cp nl cl ns cs) (hk : GOk G) (hn : ni ≤ 60) (hm : ni ≤ ci ∧ ci ≤ maxLen) (hli : inp.length = ni) (hri : RdI w B Ai inp) (hn0 : n ≤ 1000) (hL : (chT G inp).L.length ≤ 1000000) :
    Calls Tryd.prog 7 #[.agg #[.int .i64 G.terms, .int .i64 G.names, .int .i64 G.start, .slice Ap np cp, .slice Al nl cl, .slice As ns cs], .slice Ai ni ci, .int .i64 (n : Int)] w fun e w' => ∃ v, e = .returned v ∧ TrsOut G inp n ni w w' v := by
  obtain ⟨nN, hnN⟩ : ∃ nN : Nat, G.names = (nN : Int) := ⟨G.names.toNat, by have := hk.n1; have := hk.n0; omega⟩
  obtain ⟨st, hst⟩ : ∃ st : Nat, G.start = (st : Int) := ⟨G.start.toNat, by have := hk.s0; omega⟩
  obtain ⟨hb0, hs0, gb⟩ := gbox w G Ap Al As np cp nl cl ns cs
  obtain ⟨W1, hW1⟩ : ∃ W1, W1 = (w.alloc (.cells #[.int .i64 G.terms, .int .i64 G.names, .int .i64 G.start, .slice Ap np cp, .slice Al nl cl, .slice As ns cs] 25)).alloc (.cells #[.int .i64 (n : Int)] 3) := ⟨_, rfl⟩
  have hb1 : Below (w.alloc (.cells #[.int .i64 G.terms, .int .i64 G.names, .int .i64 G.start, .slice Ap np cp, .slice Al nl cl, .slice As ns cs] 25)).heap.size (w.alloc (.cells #[.int .i64 G.terms, .int .i64 G.names, .int .i64 G.start, .slice Ap np cp, .slice Al nl cl, .slice As ns cs] 25)) W1 := by rw [hW1]; exact (Below.refl _ _).alloc (Nat.le_refl _) _
  have hbw1 : Below w.heap.size w W1 := hb0.trans (hb1.mono hb0.size)
  have hnb : Blk W1 (w.heap.size + 1) 3 [.int .i64 (n : Int)] := by rw [hW1, ← hs0]; exact Blk.new _ _ _
  have gb1 := gb.below hb1 (by rw [hs0]; omega)
  have hc := newChart_any G Ap Al As np cp nl cl ns cs Ai ni ci nN inp W1 B (Nat.le_trans hB hbw1.size) (hG.below (hbw1.mono hB)) hk hn hm hli (hri.below (hbw1.mono hB)) hnN
  have HC := Lib.hid hc; have HBW1 := Lib.hid hbw1; have HK := Lib.hid hk; have HM := Lib.hid hm; have HLI := Lib.hid hli; have HB := Lib.hid hB; have HNN := Lib.hid hnN; have HST := Lib.hid hst; have HNB := Lib.hid hnb; have HL := Lib.hid hL
  have hc0 := gb1.c0; have hc1 := gb1.c1; have hc2 := gb1.c2; have hc3 := gb1.c3; have hc4 := gb1.c4; have hc5 := gb1.c5
  have HW1 := Lib.hid hW1
  clear hc hb0 gb gb1 hG hB hli hri hnN hst hs0 hm hk hb1 hbw1 hnb hL
  rw [hW1] at hc0 hc1 hc2 hc3 hc4 hc5
  clear hW1
  refine (callsIn_wide (n := 9)).1 (callsIn_marks Tryd.func7 rfl ?_)
  simp only [Tryd.ntmps7, List.size_toArray, List.length_cons, List.length_nil, Nat.reduceAdd, Nat.reduceSub, Array.replicate_succ, Array.replicate_zero, List.push_toArray, List.append_toArray, List.nil_append, List.cons_append]
  go_upto_region 1 with (fail)
  rw [← HW1.out]
  rw [← HW1.out] at hc0 hc1 hc2 hc3 hc4 hc5
  go_wp2_with fail
  refine HC.out.mono ?_
  rintro e w1 ⟨c, m2, m3, I, L, rfl, hb1, hN⟩
  have hbw := HBW1.out.trans (hb1.mono HBW1.out.size)
  obtain ⟨hch, hop, hfi⟩ := hN.ch HK.out HNN.out HM.out HLI.out (by omega) (Nat.le_trans HB.out HBW1.out.size) hb1.size
  have hwh := whole_any G Ap Al As np cp nl cl ns cs Ai ni ci inp (chT G inp) _ B c m3 w1 hch st HST.out
  have hnb1 := HNB.out.below' hb1
  have hm3 : W1.heap.size < m3 := hN.lo.2.2
  have HBW := Lib.hid hbw; have HFI := Lib.hid hfi; have HCH := Lib.hid hch; have HWH := Lib.hid hwh; have HOP := Lib.hid hop; have HNB1 := Lib.hid hnb1; have HM3 := Lib.hid hm3
  unfold kV at HWH
  clear hb1 hN hbw hop hfi hwh hch HC hc0 hc1 hc2 hc3 hc4 hc5 hnb1 hm3
  go_wp2_with fail
  refine HWH.out.mono ?_
  rintro e w2 ⟨rfl, hb2⟩
  have hst1 := HK.out.s1; have hst0 := HK.out.n1; have hst2 := HST.out
  have hx : inK (st, 0, ni) := ⟨by simp only; omega, by simp only; omega, by simp only; omega⟩
  have hsd := stands_any G Ap Al As np cp nl cl ns cs Ai ni ci inp (chT G inp) _ B c m3 (st, 0, ni) hx w2 (HCH.out.bel (fun b q => q.1) hb2)
  have HSD := Lib.hid hsd; have HB2 := Lib.hid (HBW.out.trans (hb2.mono HBW.out.size)); have HB12 := Lib.hid hb2; have HX := Lib.hid hx
  unfold kV at HSD
  clear hsd hb2 HWH hst1 hst0 hst2 hx
  go_wp2_with fail
  refine HSD.out.mono ?_
  rintro e w3 ⟨rfl, hb3⟩
  have HB3 := Lib.hid (HB2.out.trans (hb3.mono HB2.out.size))
  have HB13 := Lib.hid (HB12.out.trans (hb3.mono HB12.out.size))
  have hwx : wholeX G inp = (st, 0, ni) := by unfold wholeX; rw [HST.out, Int.toNat_natCast, HLI.out]
  have HWX := Lib.hid hwx
  by_cases q : (st, 0, ni) ∈ (chT G inp).L
  rotate_left
  · have d : Hid (decide ((st, 0, ni) ∈ (chT G inp).L) = false) := Lib.hid (decide_eq_false q)
    have hh : hasT G inp = false := by unfold hasT; rw [hwx]; exact decide_eq_false q
    have HH := Lib.hid hh
    rw [d.out]
    clear hb3 hwx q hh
    go_wp2_with fail
    have e0 : tsT G inp n = [] := by unfold tsT; rw [HH.out]; rfl
    refine ⟨_, results_tmp rfl _ _ _, ?_⟩
    exact ⟨_, rfl, HB3.out, HFI.out, [], by rw [e0]; exact World.ownsRow_nil _ _ _ _, fun _ => False, fun k q => q.elim, fun j t h => by rw [e0] at h; simp at h⟩
  · have d : Hid (decide ((st, 0, ni) ∈ (chT G inp).L) = true) := Lib.hid (decide_eq_true q)
    have hh : hasT G inp = true := by unfold hasT; rw [hwx]; exact decide_eq_true q
    have HH := Lib.hid hh
    rw [d.out]
    have HQ := Lib.hid q
    clear hwx q hh hb3
    obtain ⟨w4, hw4⟩ : ∃ w4, w4 = w3.alloc (.cells #[.slice none 0 0] 28) := ⟨_, rfl⟩
    have hb4 : Below w3.heap.size w3 w4 := by rw [hw4]; exact (Below.refl _ _).alloc (Nat.le_refl _) _
    have hz4 : w4.heap.size = w3.heap.size + 1 := by rw [hw4]; simp
    have hlb : Blk w4 w3.heap.size 28 [.slice none 0 0] := by rw [hw4]; exact Blk.new w3 _ _
    have HW4 := Lib.hid hw4; have HB4 := Lib.hid hb4; have HZ4 := Lib.hid hz4; have HLB := Lib.hid hlb
    have hb14 := HB13.out.trans (hb4.mono HB13.out.size)
    have hch4 := HCH.out.bel (fun b q => q.1) hb14
    have hwh := whole_any G Ap Al As np cp nl cl ns cs Ai ni ci inp (chT G inp) _ B c m3 w4 hch4 st HST.out
    have HWH := Lib.hid hwh; have HCH4 := Lib.hid hch4; have HB14 := Lib.hid hb14
    unfold kV at HWH
    clear hw4 hb4 hz4 hlb hb14 hch4 hwh
    go_upto_region 5 with (fail)
    rw [← HW4.out]
    go_wp2_with fail
    refine HWH.out.mono ?_
    rintro e w5 ⟨rfl, hb5⟩
    have hmk := mkTrees_any c (st, 0, ni) w5
    have HMK := Lib.hid hmk
    unfold kV at HMK
    have HB5 := Lib.hid hb5
    clear hmk hb5 HWH
    go_wp2_with fail
    refine HMK.out.mono ?_
    rintro e w6 ⟨rfl, hw6⟩
    have hw56 : Below w5.heap.size w5 w6 := by rw [hw6]; exact ((Below.refl _ _).alloc (Nat.le_refl _) _).alloc (by simp) _
    have hb5 := HB5.out
    have hz6 : w6.heap.size = w5.heap.size + 2 := by rw [hw6]; simp
    have hx1 : Blk w6 w5.heap.size 42 [.pointer (some ⟨c, 0, none⟩)] := by rw [hw6]; exact (Blk.new w5 _ [.pointer (some ⟨c, 0, none⟩)]).alloc _
    have hx2 : Blk w6 (w5.heap.size + 1) 46 [.int .i64 (st : Int), .int .i64 ((0 : Nat) : Int), .int .i64 (ni : Int)] := by
      rw [hw6]
      have h := Blk.new (w5.alloc (.cells #[.pointer (some ⟨c, 0, none⟩)] 42)) 46 [.int .i64 (st : Int), .int .i64 ((0 : Nat) : Int), .int .i64 (ni : Int)]
      have e : (w5.alloc (.cells #[.pointer (some ⟨c, 0, none⟩)] 42)).heap.size = w5.heap.size + 1 := by simp
      rw [e] at h
      exact h
    have hb46 : Below w4.heap.size w4 w6 := hb5.trans (hw56.mono hb5.size)
    have hb16 : Below w1.heap.size w1 w6 := HB14.out.trans (hb46.mono HB14.out.size)
    have hlb6 : Blk w6 w3.heap.size 28 [.slice none 0 0] := HLB.out.below' hb46
    have hs1 := hb16.size
    have hs34 := HZ4.out
    have hs13 := HB13.out.size
    have hs46 := hb46.size
    have hm3 := HOP.out.lt
    have hch6 := HCH.out.bel (fun b q => q.1) hb16
    have hop6 : Opn m3 [] w6 := HOP.out.same (hb16.block m3 hm3)
    have hnb6 := HNB1.out.below' hb16
    obtain ⟨X0, hX0⟩ : ∃ X0 : Nat → Prop, X0 = fun k => k = w3.heap.size ∨ (Value.slice none 0 0).ownBlock = some k := ⟨_, rfl⟩
    have hX0' : ∀ k, X0 k → k = w3.heap.size := fun k q => by
      rw [hX0] at q
      rcases q with q | q
      · exact q
      · simp [Value.ownBlock] at q
    have hsep : Sep m3 X0 (fun _ => False) w6 := ⟨fun k q => by have := hX0' k q; omega, fun k q => q.elim, fun k q e => e.elim, fun q => by have := hX0' _ q; omega, fun q => q.elim, by omega⟩
    obtain ⟨LT, hLT⟩ : ∃ LT, LT = treesT (chT G inp) G inp (chT G inp).L.length [] (st, 0, ni) := ⟨_, rfl⟩
    have hst0 := HK.out.s1
    have hst2 := HST.out
    have hit := trees_iter m3 (fun b => b < w1.heap.size ∧ b ≠ m3) B c G Ap Al As np cp nl cl ns cs Ai ni ci inp (chT G inp) HK.out hch6.gi.p.len.1 (by omega) (chT G inp).L.length [] (st, 0, ni) (Fuel.start _ _) (by have := HL.out; simp; omega) (by simp only; omega) (Nat.zero_le _) (Nat.le_refl _) w5.heap.size (w5.heap.size + 1)
    rw [← hLT] at hit
    have hpre : ∀ Y W1, (∀ k, Y k → X0 k ∨ w6.heap.size ≤ k) → Below w6.heap.size w6 W1 → PreT m3 (fun b => b < w1.heap.size ∧ b ≠ m3) B c G Ap Al As np cp nl cl ns cs Ai ni ci inp (chT G inp) w5.heap.size (w5.heap.size + 1) (st, 0, ni) () Y (fun _ => False) W1 := fun Y W1 hY hb => by
      have hnY : ∀ k, k < w6.heap.size → k ≠ w3.heap.size → ¬ Y k := fun k h1 h2 q => by
        rcases hY k q with q | q
        · exact h2 (hX0' k q)
        · omega
      have hbs := hb.size
      have y1 := hx1.below' hb
      have y2 := hx2.below' hb
      have hb5s := HB5.out.size
      refine ⟨⟨hch6.bel (fun b q => by omega) hb, fun b q => ⟨by omega, hnY b (by omega) (by omega), q.2⟩, by have := HB.out; have := HBW.out.size; omega⟩, ⟨by omega, hnY _ (by omega) (by omega), by omega⟩, ⟨by omega, hnY _ (by omega) (by omega), by omega⟩, y1.cell (i := 0) rfl, y2.cell (i := 0) rfl, y2.cell (i := 1) rfl, y2.cell (i := 2) rfl⟩
    obtain ⟨I, hI⟩ : ∃ I : Inv (List Tr), I = fun (pre : List Tr) X R W => Gro m3 X0 (fun _ => False) w6 X R W ∧ (pre.length ≤ n ∧ pre <+: LT) ∧ ∃ v vs, TsR w6.heap.size w3.heap.size pre v vs X R W := ⟨_, rfl⟩
    obtain ⟨Ix, hIx⟩ : ∃ Ix : Inv Code, Ix = fun cc X R W => (∃ id, cc = .exit id ∧ id = 0) ∧ Gro m3 X0 (fun _ => False) w6 X R W ∧ ∃ pre, (pre.length = n ∧ pre <+: LT) ∧ ∃ v vs, TsR w6.heap.size w3.heap.size pre v vs X R W := ⟨_, rfl⟩
    have sI : Stab m3 w6.heap.size I := by
      rw [hI]
      refine stab_and (stab_gro (Nat.le_refl _)) (stab_and (stab_pure _) ?_)
      rintro s X R R' W W' ⟨v, vs, h⟩ hs h1 h2 hk
      exact ⟨v, vs, h.own ⟨hs.xs, fun k q => hs.rs k (h1 k q), fun k q e => hs.xr k q (h1 k e), hs.xm, fun q => hs.rm (h1 _ q), hs.ms⟩ h1 hk⟩
    have sIx : Stab m3 w6.heap.size Ix := by
      rw [hIx]
      refine stab_and (stab_pure _) (stab_and (stab_gro (Nat.le_refl _)) ?_)
      rintro s X R R' W W' ⟨pre, hp, v, vs, h⟩ hs h1 h2 hk
      exact ⟨pre, hp, v, vs, h.own ⟨hs.xs, fun k q => hs.rs k (h1 k q), fun k q e => hs.xr k q (h1 k e), hs.xm, fun q => hs.rm (h1 _ q), hs.ms⟩ h1 hk⟩
    have hi0 : I [] X0 (fun _ => False) w6 := by
      rw [hI]
      exact ⟨Gro.refl hsep, ⟨Nat.zero_le _, List.nil_prefix⟩, _, [], hlb6, World.ownsRow_nil _ _ _ _, fun j t h => by simp at h, hX0⟩
    have hmin : min (n : Int) 1000 = (n : Int) := by omega
    have HMIN := Lib.hid (run_min2 Tryd.prog (n : Int) 1000 (n : Int) hmin.symm)
    have HIT := Lib.hid hit; have HPRE := Lib.hid hpre; have HI := Lib.hid hI; have HIX := Lib.hid hIx; have SI := Lib.hid sI; have SIX := Lib.hid sIx; have HI0 := Lib.hid hi0; have SP := Lib.hid hsep; have HOP6 := Lib.hid hop6; have HLT := Lib.hid hLT; have HNB6 := Lib.hid hnb6; have HX0 := Lib.hid hX0'
    have HSZ : Hid (w.heap.size + 1 < w6.heap.size ∧ w.heap.size + 1 ≠ w3.heap.size ∧ w.heap.size + 1 ≠ m3 ∧ w3.heap.size < w6.heap.size) := Lib.hid (by
      have h1 := HNB1.out.lt
      have h2 := HM3.out
      have h3 := HNB.out.lt
      omega)
    have HB16 := Lib.hid hb16
    clear hit hpre hI hIx sI sIx hi0 hsep hop6 hLT hnb6 hX0' hX0 hch6 hlb6 hx1 hx2 hb46 hb16 hw56 hz6 hw6 hb5 hs1 hs34 hs13 hs46 hm3 hst0 hst2 hmin HMK
    go_wp2_with fail
    have HFN : Hid (∀ D X3 R3 W3 pre v vs, w6.heap.size ≤ D → ¬ X3 D → ¬ R3 D → Gro m3 X0 (fun _ => False) w6 X3 R3 W3 → LT.take n = pre → TsR w6.heap.size w3.heap.size pre v vs X3 R3 W3 → ∀ W', Kp (fun k => k ∈ [D]) W3 W' → TrsOut G inp n ni w W' v) := Lib.hid (fun D X3 R3 W3 pre v vs hD hDx hDr g hpre ht W' hk => by
      have he : tsT G inp n = pre := by unfold tsT; rw [HH.out, if_pos rfl, HWX.out, ← HLT.out, hpre]
      obtain ⟨s1, s2, s3, s4⟩ := HSZ.out
      have hb06 : Below w.heap.size w w6 := HBW.out.trans (HB16.out.mono HBW.out.size)
      have hm3 := HM3.out
      have hbw1 := HBW1.out.size
      have hb4s := HB13.out.size
      have hbws := HBW.out.size
      have hb63 : Below w.heap.size w6 W3 := g.kp.bel hb06.size (fun k hk2 e => by rcases e with e | e; have := HX0.out k e; omega; omega)
      have hb3' : Below w.heap.size W3 W' := hk.bel (by have := g.kp.size; have := hb06.size; omega) (fun k hk2 e => by rw [List.mem_singleton] at e; have := hb06.size; omega)
      refine ⟨(hb06.trans hb63).trans hb3', HFI.out, vs, ?_, R3, fun k q => Nat.lt_of_lt_of_le (g.sep.rs k q) hk.size, fun j t hj => ?_⟩
      · rw [he]
        refine own_low (own_kp ht.ow hk (fun g2 e e2 => ?_)) hb06.size
        rw [List.mem_singleton] at e2
        subst e2
        exact hDx (by rw [ht.xe]; exact .inr e)
      · rw [he] at hj
        obtain ⟨u, h1, h2⟩ := ht.el j t hj
        exact ⟨u, h1, TrIn.keep (fun k q => hk.block k (g.sep.rs k q) (fun e => by rw [List.mem_singleton] at e; subst e; exact hDr q)) (fun _ q => q) h2⟩)
    refine range_wp (m := m3) (Op := Opn m3 []) (OpX := OpnX m3) (V := VT) (X := X0) (R := fun _ => False) rfl (enters_of Tryd.func25 (by kernel_rfl) rfl) rfl HIT.out SP.out (Opn_keep m3 []) (OpnX_keep m3) VT_keep HOP6.out HPRE.out I Ix SI.out SIX.out HI0.out ?body ?done ?stop
    case body =>
      intro l2 pre X2 R2 R3 x v W2 hr
      obtain ⟨b0, rfl⟩ : ∃ b0, v = .pointer (some ⟨b0, 0, none⟩) := by
        have hxm : x ∈ LT := hr.pf.subset (by simp)
        rw [HLT.out] at hxm
        have hpl := trees_pl _ _ _ x hxm
        have hv := hr.v
        cases hpl with
        | leaf i => obtain ⟨b, _, _, e, _⟩ := TrIn.node_inv hv; exact ⟨b, e⟩
        | node p h => obtain ⟨b, _, _, e, _⟩ := TrIn.node_inv hv; exact ⟨b, e⟩
      gi_wp2_with fail
      refine ⟨Kp.refl _ _, fun W3 hk3 hr3 => ?_⟩
      have hi3 := hr3.i
      rw [HI.out] at hi3
      obtain ⟨g3, ⟨hpn, hpp⟩, vv, vs, ht⟩ := hi3
      have zl := ht.lB.cell (i := 0) rfl
      have zn : W3.cell? ⟨w.heap.size + 1, 0, none⟩ = some (.int .i64 (n : Int)) := by
        obtain ⟨s1, s2, s3, s4⟩ := HSZ.out
        exact (World.cell?_of_block (a := ⟨w.heap.size + 1, 0, none⟩) (g3.same s1 (fun e => s2 (HX0.out _ e)) s3)).trans (HNB6.out.cell (i := 0) rfl)
      obtain ⟨A, ca, rfl, hc1, hc2, -⟩ := own_form ht.ow
      have hmin := HMIN.out
      by_cases q : n ≤ pre.length
      · have hpe : pre.length = n := by omega
        have d1 : decide (n ≤ pre.length) = true := decide_eq_true q
        have d2 : decide ((n : Int) ≤ (pre.length : Int)) = true := decide_eq_true (by omega)
        gi_wp2_with fail
        refine ⟨X2, R3, Gro.refl hr3.s, ⟨0, _, by omega, hr3.op⟩, ?_⟩
        rw [HIX.out]
        have h0 := (Gro.refl hr3.s)
        refine ⟨⟨0, rfl, rfl⟩, g3.step ((Kp.refl _ _)) hr3.rr hr3.rn h0, pre, ⟨hpe, hpp⟩, .slice A pre.length ca, vs, ?_⟩
        exact ht.own (m := m3) (N := w6.heap.size) ⟨hr3.s.xs, fun k q => hr3.s.rs k (hr3.rr k q), fun k q e => hr3.s.xr k q (hr3.rr k e), hr3.s.xm, fun q => hr3.s.rm (hr3.rr _ q), hr3.s.ms⟩ hr3.rr (Kp.refl _ _)
      · have d1 : decide (n ≤ pre.length) = false := decide_eq_false q
        have d2 : decide ((n : Int) ≤ (pre.length : Int)) = false := decide_eq_false (by omega)
        obtain ⟨w7, hw7⟩ : ∃ w7, w7 = W3.alloc (.cells #[.pointer (some ⟨b0, 0, none⟩)] 34) := ⟨_, rfl⟩
        have hb7 : Below W3.heap.size W3 w7 := by rw [hw7]; exact (Below.refl _ _).alloc (Nat.le_refl _) _
        have hx7 : Blk w7 W3.heap.size 34 [.pointer (some ⟨b0, 0, none⟩)] := by rw [hw7]; exact Blk.new W3 _ _
        have hs7 := hb7.size
        have hg6 := g3.kp.size
        obtain ⟨v', w8, happ, hown8, hg8, hat8, -⟩ := app_sharp elT2 28 w7 w6.heap.size (.slice A pre.length ca) _ 1 _ [.pointer (some ⟨b0, 0, none⟩)] (own_ext ht.ow hb7) 1 ⟨W3.heap.size, 0, none⟩ (by omega) rfl (fun j v hv => by
          have hadd : (⟨W3.heap.size, 0, none⟩ : Addr).add j = ⟨W3.heap.size, j, none⟩ := by unfold Addr.add; split <;> simp_all
          rw [hadd]; exact hx7.cell hv) (by simp [Value.oneCell']) (by omega) (by omega) (by omega)
        obtain ⟨A8, c8, rfl, -, -, -⟩ := own_form hown8
        have hxl : X2 w3.heap.size := by rw [ht.xe]; exact .inl rfl
        have hxo : ∀ g, (Value.slice A pre.length ca).ownBlock = some g → X2 g := fun g e => by rw [ht.xe]; exact .inr e
        have k78 : Kp (fun q => (Value.slice A pre.length ca).ownBlock = some q) w7 w8 := ⟨hg8.os, hg8.tape, hg8.output, hg8.size, fun k hk hn => hg8.block k hk (fun e => hn e.symm)⟩
        have k38 : Kp (fun q => (Value.slice A pre.length ca).ownBlock = some q) W3 w8 := (Kp.of hb7).trans k78
        have hlb8 : Blk w8 w3.heap.size 28 [.slice A pre.length ca] := blk_kp ht.lB k38 (fun e => by
          obtain ⟨us, hu⟩ := own_blk ht.ow e
          exact blk_ne hu ht.lB (by decide) rfl)
        obtain ⟨w9, hw9⟩ : ∃ w9, w9 = w8.setCell ⟨w3.heap.size, 0, none⟩ (.slice A8 (pre.length + 1) c8) := ⟨_, rfl⟩
        have k89 : Kp (fun q => q = w3.heap.size) w8 w9 := by rw [hw9]; exact (Kp.refl (fun q => q = w3.heap.size) w8).set_ (p := ⟨w3.heap.size, 0, none⟩) (.inr rfl) _
        have k39 : Kp X2 W3 w9 := (k38.mono (fun k _ e => hxo k e)).trans (k89.mono (fun k _ e => by rw [e]; exact hxl))
        have hlb9 : Blk w9 w3.heap.size 28 [.slice A8 (pre.length + 1) c8] := by rw [hw9]; exact hlb8.set_ 0 _
        have hown9 : w9.ownsRow w6.heap.size 34 1 (.slice A8 (pre.length + 1) c8) (pre.length + 1) (vs ++ [.pointer (some ⟨b0, 0, none⟩)]) := own_kp hown8 k89 (fun g e e2 => by
          obtain ⟨us, hu⟩ := own_blk hown8 e
          exact blk_ne hu hlb8 (by decide) e2)
        have hfar : ∀ k, R3 k → w9.heap[k]? = W3.heap[k]? := fun k q => k39.block k (hr3.s.rs k q) (fun e => hr3.s.xr k e q)
        obtain ⟨X9, hX9⟩ : ∃ X9 : Nat → Prop, X9 = fun k => k = w3.heap.size ∨ (Value.slice A8 (pre.length + 1) c8).ownBlock = some k := ⟨_, rfl⟩
        have hX9' : ∀ k, X9 k → X2 k ∨ (W3.heap.size ≤ k ∧ k < w9.heap.size) := fun k q => by
          rw [hX9] at q
          rcases q with q | q
          · rw [q]; exact .inl hxl
          · rcases hat8 with e | ⟨g', e, e2⟩
            · exact .inl (hxo k (e ▸ q))
            · exact .inr ⟨by rw [e] at q; cases q; omega, (hown9.lt k q).2⟩
        have hs39 := k39.size
        have hms := hr3.s.ms
        have gro9 : Gro m3 X2 R3 W3 X9 R3 w9 := ⟨fun k q => (hX9' k q).imp (fun q => q) (fun q => q.1), fun _ q => q, fun _ q => .inl q, k39.mono (fun _ _ q => .inl q), ⟨fun k q => (hX9' k q).elim (fun q => Nat.lt_of_lt_of_le (hr3.s.xs k q) hs39) (fun q => q.2), fun k q => Nat.lt_of_lt_of_le (hr3.s.rs k q) hs39, fun k q e => (hX9' k q).elim (fun q => hr3.s.xr k q e) (fun q => by have := hr3.s.rs k e; omega), fun q => (hX9' m3 q).elim hr3.s.xm (fun q => by omega), hr3.s.rm, by omega⟩⟩
        have hop9 : Opn m3 [] w9 := hr3.op.same (k39.block m3 hms hr3.s.xm)
        have hts : TsR w6.heap.size w3.heap.size (pre ++ [x]) (.slice A8 (pre.length + 1) c8) (vs ++ [.pointer (some ⟨b0, 0, none⟩)]) X9 R3 w9 := by
          refine ⟨hlb9, by rw [List.length_append]; exact hown9, fun j t hj => ?_, hX9⟩
          have hvl : vs.length = pre.length := by have := ht.ow.1; omega
          by_cases qj : j < pre.length
          · rw [List.getElem?_append_left qj] at hj
            obtain ⟨u, h1, h2⟩ := ht.el j t hj
            exact ⟨u, by rw [List.getElem?_append_left (by omega)]; exact h1, TrIn.keep (fun k q => hfar k (hr3.rr k q)) hr3.rr h2⟩
          · rw [List.getElem?_append_right (by omega)] at hj
            have e0 : j = pre.length := by
              have := (List.getElem?_eq_some_iff.1 hj).1
              simp at this
              omega
            subst e0
            simp at hj
            subst hj
            exact ⟨.pointer (some ⟨b0, 0, none⟩), by rw [List.getElem?_append_right (by omega)]; simp [hvl], TrIn.keep hfar (fun _ q => q) hr3.v⟩
        have HGR := Lib.hid gro9; have HOP9 := Lib.hid hop9; have HTS := Lib.hid hts; have HAPP := Lib.hid happ; have HW7 := Lib.hid hw7; have HW9 := Lib.hid hw9
        have HGG := Lib.hid (g3.step (Kp.refl _ _) hr3.rr hr3.rn gro9)
        have HPL : Hid ((pre ++ [x]).length ≤ n ∧ (pre ++ [x]) <+: LT) := Lib.hid ⟨by rw [List.length_append]; simp; omega, hr3.pf⟩
        have y8 := hlb8.cell (i := 0) rfl
        have f8 := hlb8.frozen 0
        clear gro9 hop9 hts happ hw7 hw9 hX9 hX9' hs39 hms hfar hown9 hlb9 k39 k89 k38 k78 hxl hxo hown8 hg8 hat8 hs7 hg6 hx7 hb7 hlb8
        gi_wp2_with (rw [← HW7.out]; refine wpListIn_append_run rfl _ _ _ rfl _ _ _ rfl rfl HAPP.out ?_; clear HAPP)
        rw [← HW9.out]
        exact ⟨X9, R3, HGR.out, HOP9.out, by rw [HI.out]; exact ⟨HGG.out, HPL.out, _, _, HTS.out⟩⟩
    case done =>
      intro D X3 R3 W3 hD hDh hDx hDr g hop hi
      rw [HI.out] at hi
      obtain ⟨_, ⟨hpn, hpp⟩, vv, vs, ht⟩ := hi
      have zl := ht.lB.cell (i := 0) rfl
      obtain ⟨A, ca, rfl, hc1, hc2, -⟩ := own_form ht.ow
      have HE := Lib.hid (HFN.out D X3 R3 W3 LT _ vs hD hDx hDr g (List.take_of_length_le hpn) ht)
      have HD := Lib.hid hDh
      clear hD hDh hDx hDr g hop hpn hpp ht hc1 hc2
      go_wp2_with fail
      refine leaves_marks [D] W3 (by simp) (fun D' q => by rw [List.mem_singleton] at q; subst q; exact HD.out) (fun W' hk => ?_)
      refine ⟨_, results_tmp rfl _ _ _, ?_⟩
      exact ⟨_, rfl, HE.out W' hk⟩
    case stop =>
      intro D cc X3 R3 W3 hD hDh hDx hDr g hop hi
      rw [HIX.out] at hi
      obtain ⟨⟨id, rfl, rfl⟩, _, pre, ⟨hpn, hpp⟩, vv, vs, ht⟩ := hi
      have zl := ht.lB.cell (i := 0) rfl
      obtain ⟨A, ca, rfl, hc1, hc2, -⟩ := own_form ht.ow
      have HE := Lib.hid (HFN.out D X3 R3 W3 pre _ vs hD hDx hDr g (by rw [← hpn]; exact (List.prefix_iff_eq_take.1 hpp).symm) ht)
      have HD := Lib.hid hDh
      clear hD hDh hDx hDr g hop hpp ht hc1 hc2
      go_wp2_with fail
      refine leaves_marks [D] W3 (by simp) (fun D' q => by rw [List.mem_singleton] at q; subst q; exact HD.out) (fun W' hk => ?_)
      refine ⟨_, results_tmp rfl _ _ _, ?_⟩
      exact ⟨_, rfl, by have h := HE.out W' hk; rw [hpn] at h; exact h⟩
end Go.Proofs.YtiklbannoinioaaDoor
namespace Go.Proofs.YtiklbannoinioaaDoor
set_option linter.unusedVariables false
set_option linter.unusedSimpArgs false

/-! ### sums -/
def sumN (l : List Nat) (F : Nat → Nat) : Nat := (l.map F).sum
theorem sumN_nil (F : Nat → Nat) : sumN [] F = 0 := rfl
theorem sumN_cons (x : Nat) (l : List Nat) (F : Nat → Nat) : sumN (x :: l) F = F x + sumN l F := by unfold sumN; simp
theorem sumN_app (l k : List Nat) (F : Nat → Nat) : sumN (l ++ k) F = sumN l F + sumN k F := by unfold sumN; simp
theorem sumN_congr {l : List Nat} {F H : Nat → Nat} (h : ∀ x ∈ l, F x = H x) : sumN l F = sumN l H := by
  induction l with
  | nil => rfl
  | cons x l ih => rw [sumN_cons, sumN_cons, h x (by simp), ih (fun y hy => h y (List.mem_cons_of_mem _ hy))]
theorem sumN_zero {l : List Nat} {F : Nat → Nat} (h : ∀ x ∈ l, F x = 0) : sumN l F = 0 := by
  induction l with
  | nil => rfl
  | cons x l ih => rw [sumN_cons, h x (by simp), ih (fun y hy => h y (List.mem_cons_of_mem _ hy))]
theorem sumN_mulr (l : List Nat) (F : Nat → Nat) (c : Nat) : sumN l F * c = sumN l (fun x => F x * c) := by
  induction l with
  | nil => rw [sumN_nil, sumN_nil, Nat.zero_mul]
  | cons x l ih => rw [sumN_cons, sumN_cons, Nat.add_mul, ih]
theorem sumN_mull (l : List Nat) (F : Nat → Nat) (c : Nat) : c * sumN l F = sumN l (fun x => c * F x) := by
  induction l with
  | nil => rw [sumN_nil, sumN_nil, Nat.mul_zero]
  | cons x l ih => rw [sumN_cons, sumN_cons, Nat.mul_add, ih]
theorem sumN_add (l : List Nat) (F H : Nat → Nat) : sumN l (fun x => F x + H x) = sumN l F + sumN l H := by
  induction l with
  | nil => rfl
  | cons x l ih => rw [sumN_cons, sumN_cons, sumN_cons, ih]; omega
theorem sumN_swap (l k : List Nat) (F : Nat → Nat → Nat) : sumN l (fun a => sumN k (F a)) = sumN k (fun b => sumN l (fun a => F a b)) := by
  induction l with
  | nil => rw [sumN_nil]; exact (sumN_zero (fun x _ => rfl)).symm
  | cons x l ih =>
    rw [sumN_cons, ih]
    have e : (fun b => sumN (x :: l) fun a => F a b) = fun b => F x b + sumN l fun a => F a b := by funext b; rw [sumN_cons]
    rw [e, sumN_add]
theorem mids_split {i m j : Nat} (h1 : i ≤ m) (h2 : m ≤ j) : mids i j = (List.range (m - i)).map (i + ·) ++ mids m j := by
  unfold mids
  obtain ⟨d, e⟩ : ∃ d, j + 1 - i = (m - i) + d ∧ j + 1 - m = d := ⟨j + 1 - m, by omega, rfl⟩
  rw [e.1, e.2, List.range_add, List.map_append, List.map_map]
  congr 1
  apply List.map_congr_left
  intro a _
  simp only [Function.comp]
  omega
theorem mids_split2 {i m j : Nat} (h1 : i ≤ m) (h2 : m ≤ j) : mids i j = mids i m ++ (List.range (j - m)).map (m + 1 + ·) := by
  unfold mids
  obtain ⟨d, e⟩ : ∃ d, j + 1 - i = (m + 1 - i) + d ∧ j - m = d := ⟨j - m, by omega, rfl⟩
  rw [e.1, e.2, List.range_add, List.map_append, List.map_map]
  congr 1
  apply List.map_congr_left
  intro a _
  simp only [Function.comp]
  omega
theorem sumN_hi {i m j : Nat} (h1 : i ≤ m) (h2 : m ≤ j) (F : Nat → Nat) : sumN (mids m j) F = sumN (mids i j) (fun x => if m ≤ x then F x else 0) := by
  rw [mids_split h1 h2, sumN_app, sumN_zero (l := (List.range (m - i)).map (i + ·)), Nat.zero_add]
  · refine sumN_congr (fun x hx => ?_)
    rw [if_pos (mem_mids.1 hx).1]
  · intro x hx
    obtain ⟨a, ha, rfl⟩ := List.mem_map.1 hx
    rw [List.mem_range] at ha
    rw [if_neg (by omega)]
theorem sumN_lo {i m j : Nat} (h1 : i ≤ m) (h2 : m ≤ j) (F : Nat → Nat) : sumN (mids i m) F = sumN (mids i j) (fun x => if x ≤ m then F x else 0) := by
  rw [mids_split2 h1 h2, sumN_app, sumN_zero (l := (List.range (j - m)).map (m + 1 + ·)), Nat.add_zero]
  · refine sumN_congr (fun x hx => ?_)
    rw [if_pos (mem_mids.1 hx).2]
  · intro x hx
    obtain ⟨a, ha, rfl⟩ := List.mem_map.1 hx
    rw [if_neg (by omega)]
/-- A sum over a triangle, either way. -/
theorem sumN_tri (i j : Nat) (F : Nat → Nat → Nat) : sumN (mids i j) (fun m => sumN (mids m j) (F m)) = sumN (mids i j) (fun m' => sumN (mids i m') (fun m => F m m')) := by
  have e1 : sumN (mids i j) (fun m => sumN (mids m j) (F m)) = sumN (mids i j) (fun m => sumN (mids i j) (fun m' => if m ≤ m' then F m m' else 0)) := sumN_congr (fun m hm => sumN_hi (mem_mids.1 hm).1 (mem_mids.1 hm).2 _)
  have e2 : sumN (mids i j) (fun m' => sumN (mids i m') (fun m => F m m')) = sumN (mids i j) (fun m' => sumN (mids i j) (fun m => if m ≤ m' then F m m' else 0)) := sumN_congr (fun m' hm => sumN_lo (mem_mids.1 hm).1 (mem_mids.1 hm).2 _)
  rw [e1, e2, sumN_swap]
/-! ### rows -/
section
variable {C : Ct} {inp : List Int} {g g' : Int → Nat → Nat → Nat}
def aW (C : Ct) (inp : List Int) (g : Int → Nat → Nat → Nat) (s : Int) (i m : Nat) : Nat := if stB C inp s i m = true then g s i m else 0
def cR (C : Ct) (inp : List Int) (g : Int → Nat → Nat → Nat) : List Int → Nat → Nat → Nat
  | [], i, j => if i = j then 1 else 0
  | s :: r, i, j => sumN (mids i j) fun m => aW C inp g s i m * cR C inp g r m j
theorem cR_zero : ∀ {r : List Int} {i j : Nat}, ¬ Rw (ST C.L inp) r i j → cR C inp g r i j = 0
  | [], i, j, h => by rw [cR, if_neg (fun e : i = j => h e)]
  | s :: r, i, j, h => by
    rw [cR]
    refine sumN_zero (fun m hm => ?_)
    unfold aW
    by_cases q : stB C inp s i m = true
    · rw [cR_zero (r := r) (fun h2 => h ⟨m, (mem_mids.1 hm).1, (mem_mids.1 hm).2, q, h2⟩), Nat.mul_zero]
    · rw [if_neg q, Nat.zero_mul]
theorem cR_snoc : ∀ (r : List Int) (s : Int) (i j : Nat), cR C inp g (r ++ [s]) i j = sumN (mids i j) fun m => cR C inp g r i m * aW C inp g s m j
  | [], s, i, j => by
    rw [List.nil_append, cR]
    by_cases q : i ≤ j
    · rw [mids_split2 (m := i) (Nat.le_refl _) q, sumN_app, sumN_app]
      have em : mids i i = [i] := by unfold mids; rw [show i + 1 - i = 1 by omega]; simp
      have z2 : sumN ((List.range (j - i)).map (i + 1 + ·)) (fun m => cR C inp g [] i m * aW C inp g s m j) = 0 := sumN_zero (fun m hm => by
        obtain ⟨a, _, rfl⟩ := List.mem_map.1 hm
        rw [cR, if_neg (by omega), Nat.zero_mul])
      rw [em, sumN_cons, sumN_nil, sumN_cons, sumN_nil, z2]
      have e1 : cR C inp g [] i i = 1 := by rw [cR, if_pos rfl]
      rw [e1, Nat.one_mul, Nat.add_zero, Nat.add_zero]
      by_cases q2 : i = j
      · subst q2
        rw [e1, Nat.mul_one]
        simp [sumN]
      · have e2 : cR C inp g [] i j = 0 := by rw [cR, if_neg q2]
        rw [e2, Nat.mul_zero, Nat.zero_add]
        obtain ⟨d, hd⟩ : ∃ d, j - i = d + 1 := ⟨j - i - 1, by omega⟩
        rw [hd, List.range_succ, List.map_append, sumN_app, sumN_zero (l := (List.range d).map (i + 1 + ·)) (fun m hm => by
          obtain ⟨a, ha, rfl⟩ := List.mem_map.1 hm
          rw [List.mem_range] at ha
          rw [cR, if_neg (by omega), Nat.mul_zero])]
        have e3 : i + 1 + d = j := by omega
        simp only [List.map_cons, List.map_nil, sumN_cons, sumN_nil, e3]
        rw [cR, if_pos rfl]
        omega
    · rw [mids_nil (by omega)]
      rfl
  | s0 :: r, s, i, j => by
    rw [List.cons_append, cR]
    have e1 : sumN (mids i j) (fun m => aW C inp g s0 i m * cR C inp g (r ++ [s]) m j) = sumN (mids i j) (fun m => sumN (mids m j) (fun m' => aW C inp g s0 i m * cR C inp g r m m' * aW C inp g s m' j)) := sumN_congr (fun m hm => by
      rw [cR_snoc r s m j, sumN_mull]
      exact sumN_congr (fun m' _ => by rw [Nat.mul_assoc]))
    rw [e1, sumN_tri]
    refine sumN_congr (fun m' hm => ?_)
    rw [cR, sumN_mulr]
theorem cR_congr : ∀ {r : List Int} {i j : Nat}, (∀ r1 s r2 m m', r = r1 ++ s :: r2 → Rw (ST C.L inp) r1 i m → m ≤ m' → stB C inp s m m' = true → Rw (ST C.L inp) r2 m' j → g s m m' = g' s m m') → cR C inp g r i j = cR C inp g' r i j
  | [], i, j, h => rfl
  | s :: r, i, j, h => by
    rw [cR, cR]
    refine sumN_congr (fun m hm => ?_)
    obtain ⟨h1, h2⟩ := mem_mids.1 hm
    unfold aW
    by_cases q : stB C inp s i m = true
    · rw [if_pos q, if_pos q]
      by_cases q2 : Rw (ST C.L inp) r m j
      · rw [h [] s r i m rfl rfl h1 q q2]
        rw [cR_congr (r := r) (fun r1 s' r2 m1 m' e k1 k2 k3 k4 => h (s :: r1) s' r2 m1 m' (by rw [e]; rfl) ⟨m, h1, k1.le, q, k1⟩ k2 k3 k4)]
      · rw [cR_zero q2, cR_zero q2, Nat.mul_zero, Nat.mul_zero]
    · rw [if_neg q, if_neg q, Nat.zero_mul, Nat.zero_mul]
theorem len_flat {α β : Type} (f : α → List β) (n : Nat) : ∀ (l : List α), (∀ x ∈ l, (f x).length = n) → (l.flatMap f).length = l.length * n
  | [], _ => by simp
  | x :: l, h => by
    rw [List.flatMap_cons, List.length_append, h x (by simp), len_flat f n l (fun y hy => h y (List.mem_cons_of_mem _ hy)), List.length_cons, Nat.add_mul, Nat.one_mul, Nat.add_comm]
theorem len_flatN {β : Type} (f : Nat → List β) : ∀ (l : List Nat), (l.flatMap f).length = sumN l fun x => (f x).length
  | [] => rfl
  | x :: l => by rw [List.flatMap_cons, List.length_append, sumN_cons, len_flatN f l]
theorem rows_len {tf : Int → Nat → Nat → List Tr} : ∀ {r : List Int} {i j : Nat}, (rowsT C inp tf r i j).length = cR C inp (fun s i j => (tf s i j).length) r i j
  | [], i, j => by rw [rowsT, cR]; split <;> rfl
  | s :: r, i, j => by
    rw [rowsT, cR, len_flatN]
    refine sumN_congr (fun m hm => ?_)
    unfold aW
    by_cases q : stB C inp s i m = true
    · by_cases q2 : restB C inp r m j = true
      · rw [if_pos (by rw [q, q2]; rfl), if_pos q, len_flat _ (cR C inp (fun s i j => (tf s i j).length) r m j) _ (fun k _ => by rw [List.length_map, rows_len])]
      · rw [if_neg (by rw [q, Bool.true_and]; exact q2), if_pos q, cR_zero (fun h => q2 (rest_rw.2 h)), Nat.mul_zero]
        rfl
    · rw [if_neg (by simp [q]), if_neg q, Nat.zero_mul]
      rfl
end
end Go.Proofs.YtiklbannoinioaaDoor
