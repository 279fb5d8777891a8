/- ways: the ways of the first symbols of a production. -/
import Derived.Test.YtiklbannoinioaaDoorQ20
namespace Go.Proofs.YtiklbannoinioaaDoor
open Go.RowKit BigFrame Go.Maps
set_option linter.unusedVariables false
set_option linter.unusedSimpArgs false
set_option maxRecDepth 100000

theorem ta_span (a i j : Nat) (w : World) : (Instr.typeAssert (.iface 46 (.agg #[.int .i64 (a : Int), .int .i64 (i : Int), .int .i64 (j : Int)])) 99 46 true).run Tryd.prog w = .ok (.tuple #[.agg #[.int .i64 (a : Int), .int .i64 (i : Int), .int .i64 (j : Int)], .bool true]) w := rfl
theorem ta_leaf (s : Int) (i j : Nat) (w : World) : (Instr.typeAssert (.iface 111 (.agg #[.int .i64 s, .int .i64 (i : Int), .int .i64 (j : Int)])) 99 46 true).run Tryd.prog w = .ok (.tuple #[.agg #[.int .i64 0, .int .i64 0, .int .i64 0], .bool false]) w := rfl
theorem vN_one : vB 1000000000 (ofN 1) = 1 ∧ Nm (ofN 1) := by
  rw [ofN_one (by decide) (by decide)]
  refine ⟨by simp [vB], ⟨fun x hx => by rw [List.mem_singleton] at hx; subst hx; decide, .inr ?_⟩⟩
  simp [vB]
section
variable (S : Nat → Prop) (B c m2 m3 N : Nat) (vs0 : List Value) (G : Gr) (Ap Al As : Option Addr) (np cp nl cl ns cs : Nat) (Ai : Option Addr) (ni ci : Nat) (inp : List Int) (C : Ct)
/-- What a count's call is like. -/
def CntC (O : List K3) (cnt : CS → K3 → CS × Nat) : Prop := ∀ σ y, BI O σ → y ∈ C.L → ∀ w, CtM w S B c m2 m3 N vs0 G Ap Al As np cp nl cl ns cs Ai ni ci inp C O σ →
  Calls Tryd.prog 19 #[.pointer (some ⟨c, 0, none⟩), kV y] w fun e w' => ∃ v, e = .returned v ∧ NumV N w' v (cnt σ y).2 ∧ CtM w' S B c m2 m3 N vs0 G Ap Al As np cp nl cl ns cs Ai ni ci inp C O (cnt σ y).1 ∧ Kp (Zct m2 m3 c) w w'
set_option maxHeartbeats 8000000 in
theorem ways_any (hk : GOk G) (hni : ni ≤ 7) (hpl : G.prods.length = np) (hR : ∀ p, p < G.prods.length → (rtN G p).length ≤ 5) (hC : ∀ x ∈ C.L, x.2.1 ≤ x.2.2 ∧ x.1 < 8) (h7 : ∀ x ∈ C.L, x.2.2 ≤ ni) (O : List K3) (cnt : CS → K3 → CS × Nat) (hc : CB C O cnt) (hcc : CntC S B c m2 m3 N vs0 G Ap Al As np cp nl cl ns cs Ai ni ci inp C O cnt)
    (p : Nat) (hp : p < np) (i j : Nat) (hij : i ≤ j) (hj : j ≤ ni) : ∀ (at_ tq : Nat) (σ : CS), at_ ≤ (rtN G p).length → i ≤ tq → tq ≤ j → BI O σ → ∀ w, CtM w S B c m2 m3 N vs0 G Ap Al As np cp nl cl ns cs Ai ni ci inp C O σ →
    Calls Tryd.prog 29 #[.pointer (some ⟨c, 0, none⟩), .int .i64 p, .int .i64 at_, .int .i64 i, .int .i64 tq] w fun e w' => ∃ v, e = .returned v ∧ NumV N w' v (waysP C G inp cnt p i at_ tq σ).2 ∧ CtM w' S B c m2 m3 N vs0 G Ap Al As np cp nl cl ns cs Ai ni ci inp C O (waysP C G inp cnt p i at_ tq σ).1 ∧ Kp (Zct m2 m3 c) w w' := by
  intro at_
  induction at_ with
  | zero =>
    intro tq σ hat hi htq hb w h
    have hp4 := hk.p
    have hf := fits_any G Ap Al As np cp nl cl ns cs Ai ni ci inp C S B c m3 p 0 i tq ⟨by simp only; omega, by simp only; omega, by simp only; omega⟩ (by omega) w h.ch
    have HF := Lib.hid hf; have HH := Lib.hid h
    rw [waysP]
    clear hf h
    cases ef : fitB C p 0 i tq with
    | false =>
      rw [ef] at HF
      simp only [Bool.false_eq_true, if_false]
      go_enter Tryd.func29, Tryd.ntmps29
      go_wp2_with fail
      refine HF.out.mono ?_
      rintro e w1 ⟨rfl, hb1⟩
      have HB1 := Lib.hid hb1
      clear hb1
      go_wp2_with fail
      go_ret
      exact ⟨_, rfl, NumV.zero _ _, HH.out.bel HB1.out, Kp.of HB1.out⟩
    | true =>
      rw [ef] at HF
      simp only [if_true]
      go_enter Tryd.func29, Tryd.ntmps29
      go_wp2_with fail
      refine HF.out.mono ?_
      rintro e w1 ⟨rfl, hb1⟩
      have HB1 := Lib.hid hb1
      have HO := Lib.hid (wof_any 1 w1 (by decide) (by decide))
      clear hb1
      go_wp2_with fail
      refine HO.out.mono ?_
      rintro e w2 ⟨v, rfl, ho, hb2⟩
      have HN : Hid (NumV N w2 v 1) := Lib.hid (by
        have := NumV.of_own (N := N) ho (Nat.le_trans HH.out.sz HB1.out.size) vN_one.2
        rwa [vN_one.1] at this)
      have HB2 := Lib.hid (HB1.out.trans (hb2.mono HB1.out.size))
      clear ho hb2
      go_wp2_with fail
      go_ret
      exact ⟨_, rfl, HN.out, HH.out.bel HB2.out, Kp.of HB2.out⟩
  | succ at_ ih =>
    intro tq σ hat hi htq hb w h
    have hp4 := hk.p
    have hR5 := hR p (by omega)
    obtain ⟨a1, ha1⟩ : ∃ a1, a1 = at_ + 1 := ⟨_, rfl⟩
    have hf := fits_any G Ap Al As np cp nl cl ns cs Ai ni ci inp C S B c m3 p a1 i tq ⟨by simp only; omega, by simp only; omega, by simp only; omega⟩ (by omega) w h.ch
    have HF := Lib.hid hf; have HH := Lib.hid h
    rw [waysP, ← ha1]
    clear hf
    cases ef : fitB C p a1 i tq with
    | false =>
      rw [ef] at HF
      simp only [Bool.false_eq_true, if_false]
      clear ih h ha1
      go_enter Tryd.func29, Tryd.ntmps29
      go_wp2_with fail
      refine HF.out.mono ?_
      rintro e w1 ⟨rfl, hb1⟩
      have HB1 := Lib.hid hb1
      clear hb1
      go_wp2_with fail
      go_ret
      exact ⟨_, rfl, NumV.zero _ _, HH.out.bel HB1.out, Kp.of HB1.out⟩
    | true =>
      rw [ef] at HF
      simp only [if_true]
      obtain ⟨s, hs⟩ : ∃ s, s = nth (rtN G p) at_ := ⟨_, rfl⟩
      rw [← hs]
      obtain ⟨W, hW⟩ : ∃ W, W = wStep C inp cnt (fun m σ => waysP C G inp cnt p i at_ m σ) (fun m => fitB C p at_ i m) s tq := ⟨_, rfl⟩
      rw [← hW]
      have HW := Lib.hid hW
      have hsm := rtN_sym hk (p := p) (by omega) (s := nth (rtN G p) at_) (by rw [nth_get (by omega)]; exact List.getElem_mem _)
      rw [← hs] at hsm
      obtain ⟨b, off, A', n', c', rfl, hb', z0, z1, e1, e2, e3, e4⟩ := h.ch.gi.p.rt hp
      obtain ⟨rb, ro, rfl, hrb, hrc⟩ := e4.at_ (by omega)
      have zs0 := hrc at_ (by omega)
      rw [← hs] at zs0
      have z3 := h.ch.g3
      have hlt : at_ < n' := by omega
      have hw1 : IntKind.i64.wrap ((a1 : Int) - 1) = (at_ : Int) := by rw [IntWalk.i64_in _ (by omega)]; omega
      have hw2 : (a1 : Int) - 1 = (at_ : Int) := by omega
      have d0 : ((a1 : Int) == 0) = false := by simp; omega
      have HIH := Lib.hid ih; have HBI := Lib.hid hb; have HA1 := Lib.hid ha1; have HS := Lib.hid hs; have HHc := Lib.hid hc; have HCC := Lib.hid hcc; have HRL := Lib.hid hR; have HCL := Lib.hid hC; have H7 := Lib.hid h7; have HPL := Lib.hid hpl; have HAT := Lib.hid hat; have HE1 := Lib.hid e1; have HR5 := Lib.hid hR5
      unfold maxLen at e3
      clear hW ih hb h ha1 hs hc hcc hR hC h7 hpl z0 hrc hb' e4
      go_enter Tryd.func29, Tryd.ntmps29
      go_wp2_with fail
      refine HF.out.mono ?_
      rintro e w1 ⟨rfl, hb1⟩
      have y1 := (hb1.cell (p := ⟨b, off + p * 3 + 1, none⟩) (lt_cell z1)).trans z1
      have ys := (hb1.cell (p := ⟨rb, ro + at_, none⟩) (lt_cell zs0)).trans zs0
      have y3 := (hb1.cell (p := ⟨c, 3, none⟩) (lt_cell z3)).trans z3
      have HB1 := Lib.hid hb1
      have HM1 := Lib.hid (HH.out.bel hb1)
      clear hb1 z1 zs0 z3 HF
      go_wp2_with fail
      have hpre := fun k hk => ways_pre (inp := inp) (G := G) HCL.out HHc.out hij (by omega) p at_ tq σ hi htq (by have := HR5.out; omega) HBI.out (by rw [← HA1.out]; exact ef) (W := W) (by rw [← HS.out]; exact HW.out) k hk
      have HPRE := Lib.hid hpre
      clear hpre ef
      go_loopw [11, 13] (fun vn vm wr => ∃ (k : Nat) (σk : CS) (nk : Nat), vm = .int .i64 ((i + k : Nat) : Int) ∧ k ≤ tq + 1 - i ∧ Hid ((midsTo i k).foldl W (σ, 0) = (σk, nk)) ∧ Hid (NumV N wr vn nk) ∧ Hid (CtM wr S B c m2 m3 N vs0 G (some ⟨b, off, none⟩) Al As np cp nl cl ns cs Ai ni ci inp C O σk) ∧ Hid (Kp (Zct m2 m3 c) w wr)) (fun _ vm _ => tq + 1 - (intOf vm).toNat)
      case atStart => exact ⟨0, σ, 0, rfl, Nat.zero_le _, Lib.hid rfl, Lib.hid (NumV.zero _ _), HM1, Lib.hid (Kp.of HB1.out)⟩
      case round =>
        obtain ⟨k, σk, nk, rfl, hk1, HFO, HNV, HMk, HKk⟩ := hrel
        obtain ⟨mm, hmm⟩ : ∃ mm, mm = i + k := ⟨_, rfl⟩
        rw [← hmm]
        have HMM := Lib.hid hmm
        have hmk : mm ≤ i + k := by omega
        have hmk2 : i ≤ mm := by omega
        have hik : i + k ≤ mm := by omega
        clear hmm
        obtain ⟨An, ln, cn, ll, rfl, hrd, hll, hnm, hvn, hE⟩ := HNV.out.rd
        have hpk := HPRE.out k hk1
        rw [HFO.out] at hpk
        have hln := hE hpk.2
        have HBk := Lib.hid hpk.1
        clear hrd hll hnm hvn hE hpk
        by_cases q : mm ≤ tq
        · have dq : decide (mm ≤ tq) = true := decide_eq_true q
          have hpn := HPL.out
          have HO := Lib.hid (of_any s mm tq (by omega) wr)
          have HFm := Lib.hid (fits_any G (some ⟨b, off, none⟩) Al As np cp nl cl ns cs Ai ni ci inp C S B c m3 p at_ i mm ⟨by simp only; omega, by simp only; have := HR5.out; have := HAT.out; omega, by simp only; omega⟩ (by omega) wr HMk.out.ch)
          have hnext : (midsTo i (k + 1)).foldl W (σ, 0) = W (σk, nk) mm := by rw [midsTo_succ, List.foldl_append, HFO.out, HMM.out]; rfl
          have HNX := Lib.hid hnext
          have HPT := Lib.hid (fun w' (hbw : Below wr.heap.size wr w') => partStands_any G (some ⟨b, off, none⟩) Al As np cp nl cl ns cs Ai ni ci inp C S B c m3 s mm tq (by omega) q (by omega) (by omega) w' (Nat.le_trans (Nat.le_trans HMk.out.bc (by have := HMk.out.ne; have := HMk.out.sz; omega)) hbw.size) (fun b q => Nat.lt_of_lt_of_le (HMk.out.sz' b q) hbw.size) (HMk.out.ch.bel HMk.out.sz' hbw))
          clear hnext
          have hta1 := ta_span
          have hta2 := ta_leaf
          clear hpn
          by_cases q0 : 0 ≤ s
          · have ev := (HPT.out wr (Below.refl _ _)).1 q0 |>.1
            rw [ev] at HO
            clear ev
            have HQ0 := Lib.hid q0
            clear q0
            cases e1 : fitB C p at_ i mm with
            | false =>
              rw [e1] at HFm
              have hsame : W (σk, nk) mm = (σk, nk) := by rw [HW.out]; unfold wStep; rw [if_neg (by simp [e1])]
              have HFO2 : Hid ((midsTo i (k + 1)).foldl W (σ, 0) = (σk, nk)) := Lib.hid (by rw [HNX.out, hsame])
              clear hsame e1
              go_wp2_with fail
              refine HO.out.mono ?_
              rintro e w' ⟨rfl, rfl⟩
              go_wp2_with fail
              refine HFm.out.mono ?_
              rintro e w2 ⟨rfl, hb2⟩
              have HM2 := Lib.hid (HMk.out.bel hb2); have HN2 := Lib.hid (HNV.out.bel hb2); have HK2 := Lib.hid (HKk.out.trans (Kp.of hb2))
              clear hb2
              go_wp2_with fail
              go_roundw
              case rel => exact ⟨k + 1, σk, nk, by congr 1; omega, by omega, HFO2, HN2, HM2, HK2⟩
              case measure => simp [intOf]; omega
            | true =>
              rw [e1] at HFm
              go_wp2_with fail
              refine HO.out.mono ?_
              rintro e w' ⟨rfl, rfl⟩
              go_wp2_with fail
              refine HFm.out.mono ?_
              rintro e w2 ⟨rfl, hb2⟩
              have hst := (HPT.out w2 hb2).1 HQ0.out |>.2
              have HST := Lib.hid hst; have HM2 := Lib.hid (HMk.out.bel hb2); have HN2 := Lib.hid (HNV.out.bel hb2); have HK2 := Lib.hid (HKk.out.trans (Kp.of hb2))
              clear hst hb2 HFm
              cases e2 : stB C inp s mm tq with
              | false =>
                rw [e2] at HST
                have hsame : W (σk, nk) mm = (σk, nk) := by rw [HW.out]; unfold wStep; rw [if_neg (by simp [e2])]
                have HFO2 : Hid ((midsTo i (k + 1)).foldl W (σ, 0) = (σk, nk)) := Lib.hid (by rw [HNX.out, hsame])
                clear hsame e1 e2
                go_wp2_with fail
                refine HST.out.mono ?_
                rintro e w3 ⟨rfl, hb3⟩
                have HM3 := Lib.hid (HM2.out.bel hb3); have HN3 := Lib.hid (HN2.out.bel hb3); have HK3 := Lib.hid (HK2.out.trans (Kp.of hb3))
                clear hb3
                go_wp2_with fail
                go_roundw
                case rel => exact ⟨k + 1, σk, nk, by congr 1; omega, by omega, HFO2, HN3, HM3, HK3⟩
                case measure => simp [intOf]; omega
              | true =>
                have E1 := Lib.hid e1; have E2 := Lib.hid e2
                rw [e2] at HST
                go_wp2_with fail
                refine HST.out.mono ?_
                rintro e w3 ⟨rfl, hb3⟩
                have HM3 := Lib.hid (HM2.out.bel hb3); have HN3 := Lib.hid (HN2.out.bel hb3); have HK3 := Lib.hid (HK2.out.trans (Kp.of hb3))
                have HOF := Lib.hid (wof_any 1 w3 (by decide) (by decide))
                clear hb3
                go_wp2_with fail
                refine HOF.out.mono ?_
                rintro e w4 ⟨v1, rfl, ho, hb4⟩
                have hv1 : NumV N w4 v1 1 := by
                  have := NumV.of_own (N := N) ho HM3.out.sz vN_one.2
                  rwa [vN_one.1] at this
                have HM4 := Lib.hid (HM3.out.bel hb4); have HN4 := Lib.hid (HN3.out.bel hb4); have HK4 := Lib.hid (HK3.out.trans (Kp.of hb4)); have HV1 := Lib.hid hv1
                clear ho hb4 hv1
                obtain ⟨σ1, kv, hq⟩ : ∃ σ1 kv, (σ1, kv) = (if 0 ≤ s then (σk, 1) else cnt σk ((-1 - s).toNat, mm, tq)) := ⟨_, _, rfl⟩
                have hq1 : σ1 = σk ∧ kv = 1 := by
                  rw [if_pos HQ0.out] at hq
                  cases hq
                  exact ⟨rfl, rfl⟩
                have HQQ := Lib.hid hq
                obtain ⟨rfl, rfl⟩ := hq1
                obtain ⟨w5, hw5⟩ : ∃ w5 : World, w5 = w4 := ⟨_, rfl⟩
                have HM5 := HM4; have HN5 := HN4; have HK5 := HK4; have HV5 := HV1
                rw [← hw5] at HM5 HN5 HK5 HV5 ⊢
                have HBS : Hid (BI O σ1 ∧ Sm 1) := Lib.hid ⟨HBk.out, 1, by decide, by decide⟩
                clear hq hw5 e1 e2
                obtain ⟨A1, ln1, c1, l1, rfl, -, -, -, -, hE1⟩ := HV5.out.rd
                have hln1 := hE1 HBS.out.2
                have hwt := ways_top (inp := inp) (G := G) HCL.out HHc.out hij (by omega) p at_ mm σ1 hmk2 (by omega) (by have := HR5.out; have := HAT.out; have := HA1.out; omega) HBS.out.1
                have hwy := HIH.out mm σ1 (by have := HAT.out; omega) hmk2 (by omega) HBS.out.1 w5 HM5.out
                have HWY := Lib.hid hwy; have HWT := Lib.hid hwt
                have hnk : Sm ((midsTo i (k + 1)).foldl W (σ, 0)).2 := (HPRE.out (k + 1) (by omega)).2
                have hres : (midsTo i (k + 1)).foldl W (σ, 0) = ((waysP C G inp cnt p i at_ mm σ1).1, nk + (waysP C G inp cnt p i at_ mm σ1).2 * 1) := by
                  rw [HNX.out, HW.out]
                  unfold wStep
                  rw [if_pos (by rw [Bool.and_eq_true]; exact ⟨E1.out, E2.out⟩)]
                  simp only [← HQQ.out]
                rw [hres] at hnk
                have HNK := Lib.hid hnk; have HRES := Lib.hid hres
                clear hE1 hwy hwt hnk hres
                go_wp2_with fail
                refine HWY.out.mono ?_
                rintro e w6 ⟨v6, rfl, hv6, hm6, hk6⟩
                obtain ⟨A6, ln6, c6, l6, rfl, rd6, hl6, nm6, vb6, hE6⟩ := hv6.rd
                have hln6 := hE6 HWT.out.2
                obtain ⟨A1', ln1', c1', l1', e1', rd1, hl1, nm1, vb1, -⟩ := (HV5.out.kp hk6 HM5.out.zN).rd
                simp only [Value.slice.injEq] at e1'
                obtain ⟨rfl, rfl, rfl⟩ := e1'
                have htm := times_u A6 A1 ln6 c6 ln1 c1 l6 l1' w6 w6.heap.size (Nat.le_refl _) rd6 hl6 rd1 hl1 (by omega) (by omega) nm6 nm1
                rw [vb6, vb1] at htm
                have HTM := Lib.hid htm
                have HM6 := Lib.hid hm6; have HN6 := Lib.hid (HN5.out.kp hk6 HM5.out.zN); have HK6 := Lib.hid (HK5.out.trans hk6)
                clear htm rd6 hl6 nm6 vb6 hE6 rd1 hl1 nm1 vb1 hv6 hm6 hk6 HWY
                go_wp2_with fail
                refine HTM.out.mono ?_
                rintro e w7 ⟨v7, l7, rfl, ow7, nm7, vb7, -, hb7⟩
                have hv7 := NumV.of_own (N := N) ow7 HM6.out.sz nm7
                rw [vb7] at hv7
                obtain ⟨A7, ln7, c7, l7', rfl, rd7, hl7, nm7', vb7', hE7⟩ := hv7.rd
                have hln7 := hE7 (HNK.out.mono (Nat.le_add_left _ _))
                obtain ⟨An', lnn', cn', ln', en', rdn, hln, nmn, vbn, -⟩ := (HN6.out.bel hb7).rd
                simp only [Value.slice.injEq] at en'
                obtain ⟨rfl, rfl, rfl⟩ := en'
                have hpl' := plus_u An A7 ln cn ln7 c7 ln' l7' w7 w7.heap.size (Nat.le_refl _) rdn hln rd7 hl7 (by omega) (by omega) nmn nm7'
                rw [vb7', vbn] at hpl'
                have HPU := Lib.hid hpl'
                have HM7 := Lib.hid (HM6.out.bel hb7); have HK7 := Lib.hid (HK6.out.trans (Kp.of hb7))
                clear hpl' rd7 hl7 nm7' vb7' hE7 rdn hln nmn vbn hv7 ow7 nm7 vb7 hb7 HTM
                go_wp2_with fail
                refine HPU.out.mono ?_
                rintro e w8 ⟨v8, l8, rfl, ow8, nm8, vb8, -, hb8⟩
                have hv8 := NumV.of_own (N := N) ow8 HM7.out.sz nm8
                rw [vb8] at hv8
                have HV8 := Lib.hid hv8; have HM8 := Lib.hid (HM7.out.bel hb8); have HK8 := Lib.hid (HK7.out.trans (Kp.of hb8))
                clear hv8 ow8 nm8 vb8 hb8 HPU
                go_wp2_with fail
                go_roundw
                case rel => exact ⟨k + 1, _, _, by congr 1; omega, by omega, HRES, HV8, HM8, HK8⟩
                case measure => simp [intOf]; omega
          · obtain ⟨a, HAA, ev, -⟩ := (HPT.out wr (Below.refl _ _)).2 q0
            rw [ev] at HO
            clear ev
            have HQ0 := Lib.hid q0
            clear q0
            cases e1 : fitB C p at_ i mm with
            | false =>
              rw [e1] at HFm
              have hsame : W (σk, nk) mm = (σk, nk) := by rw [HW.out]; unfold wStep; rw [if_neg (by simp [e1])]
              have HFO2 : Hid ((midsTo i (k + 1)).foldl W (σ, 0) = (σk, nk)) := Lib.hid (by rw [HNX.out, hsame])
              clear hsame e1
              go_wp2_with fail
              refine HO.out.mono ?_
              rintro e w' ⟨rfl, rfl⟩
              go_wp2_with fail
              refine HFm.out.mono ?_
              rintro e w2 ⟨rfl, hb2⟩
              have HM2 := Lib.hid (HMk.out.bel hb2); have HN2 := Lib.hid (HNV.out.bel hb2); have HK2 := Lib.hid (HKk.out.trans (Kp.of hb2))
              clear hb2
              go_wp2_with fail
              go_roundw
              case rel => exact ⟨k + 1, σk, nk, by congr 1; omega, by omega, HFO2, HN2, HM2, HK2⟩
              case measure => simp [intOf]; omega
            | true =>
              rw [e1] at HFm
              go_wp2_with fail
              refine HO.out.mono ?_
              rintro e w' ⟨rfl, rfl⟩
              go_wp2_with fail
              refine HFm.out.mono ?_
              rintro e w2 ⟨rfl, hb2⟩
              obtain ⟨a', HAA', -, hst⟩ := (HPT.out w2 hb2).2 HQ0.out
              have haa : a' = a := HAA'.out.trans HAA.out.symm
              subst haa
              have HST := Lib.hid hst; have HM2 := Lib.hid (HMk.out.bel hb2); have HN2 := Lib.hid (HNV.out.bel hb2); have HK2 := Lib.hid (HKk.out.trans (Kp.of hb2))
              clear hst hb2 HFm
              cases e2 : stB C inp s mm tq with
              | false =>
                rw [e2] at HST
                have hsame : W (σk, nk) mm = (σk, nk) := by rw [HW.out]; unfold wStep; rw [if_neg (by simp [e2])]
                have HFO2 : Hid ((midsTo i (k + 1)).foldl W (σ, 0) = (σk, nk)) := Lib.hid (by rw [HNX.out, hsame])
                clear hsame e1 e2
                go_wp2_with fail
                refine HST.out.mono ?_
                rintro e w3 ⟨rfl, hb3⟩
                have HM3 := Lib.hid (HM2.out.bel hb3); have HN3 := Lib.hid (HN2.out.bel hb3); have HK3 := Lib.hid (HK2.out.trans (Kp.of hb3))
                clear hb3
                go_wp2_with fail
                go_roundw
                case rel => exact ⟨k + 1, σk, nk, by congr 1; omega, by omega, HFO2, HN3, HM3, HK3⟩
                case measure => simp [intOf]; omega
              | true =>
                have E1 := Lib.hid e1; have E2 := Lib.hid e2
                rw [e2] at HST
                go_wp2_with fail
                refine HST.out.mono ?_
                rintro e w3 ⟨rfl, hb3⟩
                have HM3 := Lib.hid (HM2.out.bel hb3); have HN3 := Lib.hid (HN2.out.bel hb3); have HK3 := Lib.hid (HK2.out.trans (Kp.of hb3))
                have HOF := Lib.hid (wof_any 1 w3 (by decide) (by decide))
                clear hb3
                go_wp2_with fail
                refine HOF.out.mono ?_
                rintro e w4 ⟨v1, rfl, ho, hb4⟩
                have hv1 : NumV N w4 v1 1 := by
                  have := NumV.of_own (N := N) ho HM3.out.sz vN_one.2
                  rwa [vN_one.1] at this
                have HM4 := Lib.hid (HM3.out.bel hb4); have HN4 := Lib.hid (HN3.out.bel hb4); have HK4 := Lib.hid (HK3.out.trans (Kp.of hb4)); have HV1 := Lib.hid hv1
                clear ho hb4 hv1
                obtain ⟨w4b, hw4b⟩ : ∃ w4b, w4b = w4.alloc (.cells #[.int .i64 (a' : Int), .int .i64 (mm : Int), .int .i64 (tq : Int)] 46) := ⟨_, rfl⟩
                have hb4b : Below w4.heap.size w4 w4b := by rw [hw4b]; exact (Below.refl _ _).alloc (Nat.le_refl _) _
                have HM4b := Lib.hid (HM4.out.bel hb4b)
                have hyL : (a', mm, tq) ∈ C.L := by
                  have h := e2
                  unfold stB at h
                  rw [if_neg (show ¬ 0 ≤ s by have := HQ0.out; omega), ← HAA.out] at h
                  exact of_decide_eq_true h
                have hct := HCC.out σk (a', mm, tq) HBk.out hyL w4b HM4b.out
                have HCT := Lib.hid hct; have HYL := Lib.hid hyL; have HW4b := Lib.hid hw4b; have HB4b := Lib.hid hb4b
                unfold kV at HCT
                clear hct hyL hw4b hb4b
                go_wp2_with fail
                rw [← HW4b.out]
                refine HCT.out.mono ?_
                rintro e w5 ⟨v5, rfl, hv5, hm5, hk5⟩
                have hzN := HM4b.out.zN
                have HM5 := Lib.hid hm5; have HN5 := Lib.hid ((HN4.out.bel HB4b.out).kp hk5 hzN); have HK5 := Lib.hid ((HK4.out.trans (Kp.of HB4b.out)).trans hk5); have HV5 := Lib.hid hv5
                have HBS := Lib.hid (cnt_top HHc.out HBk.out HYL.out (by have := H7.out _ HYL.out; omega))
                obtain ⟨σ1, kv, hq⟩ : ∃ σ1 kv, (σ1, kv) = cnt σk (a', mm, tq) := ⟨_, _, rfl⟩
                have hq1 : (cnt σk (a', mm, tq)).1 = σ1 := by rw [← hq]
                have hq2 : (cnt σk (a', mm, tq)).2 = kv := by rw [← hq]
                have HQQ : Hid ((σ1, kv) = (if 0 ≤ s then (σk, 1) else cnt σk ((-1 - s).toNat, mm, tq))) := Lib.hid (by rw [if_neg (show ¬ 0 ≤ s by have := HQ0.out; omega), ← HAA.out]; exact hq)
                rw [hq1] at HM5 HBS
                rw [hq2] at HV5 HBS
                clear hq hq1 hq2 hv5 hm5 hk5 hzN HCT HYL HM4 HN4 HK4 HV1 HM4b e1 e2
                obtain ⟨A1, ln1, c1, l1, rfl, -, -, -, -, hE1⟩ := HV5.out.rd
                have hln1 := hE1 HBS.out.2
                have hwt := ways_top (inp := inp) (G := G) HCL.out HHc.out hij (by omega) p at_ mm σ1 hmk2 (by omega) (by have := HR5.out; have := HAT.out; have := HA1.out; omega) HBS.out.1
                have hwy := HIH.out mm σ1 (by have := HAT.out; omega) hmk2 (by omega) HBS.out.1 w5 HM5.out
                have HWY := Lib.hid hwy; have HWT := Lib.hid hwt
                have hnk : Sm ((midsTo i (k + 1)).foldl W (σ, 0)).2 := (HPRE.out (k + 1) (by omega)).2
                have hres : (midsTo i (k + 1)).foldl W (σ, 0) = ((waysP C G inp cnt p i at_ mm σ1).1, nk + (waysP C G inp cnt p i at_ mm σ1).2 * kv) := by
                  rw [HNX.out, HW.out]
                  unfold wStep
                  rw [if_pos (by rw [Bool.and_eq_true]; exact ⟨E1.out, E2.out⟩)]
                  simp only [← HQQ.out]
                rw [hres] at hnk
                have HNK := Lib.hid hnk; have HRES := Lib.hid hres
                clear hE1 hwy hwt hnk hres
                go_wp2_with fail
                refine HWY.out.mono ?_
                rintro e w6 ⟨v6, rfl, hv6, hm6, hk6⟩
                obtain ⟨A6, ln6, c6, l6, rfl, rd6, hl6, nm6, vb6, hE6⟩ := hv6.rd
                have hln6 := hE6 HWT.out.2
                obtain ⟨A1', ln1', c1', l1', e1', rd1, hl1, nm1, vb1, -⟩ := (HV5.out.kp hk6 HM5.out.zN).rd
                simp only [Value.slice.injEq] at e1'
                obtain ⟨rfl, rfl, rfl⟩ := e1'
                have htm := times_u A6 A1 ln6 c6 ln1 c1 l6 l1' w6 w6.heap.size (Nat.le_refl _) rd6 hl6 rd1 hl1 (by omega) (by omega) nm6 nm1
                rw [vb6, vb1] at htm
                have HTM := Lib.hid htm
                have HM6 := Lib.hid hm6; have HN6 := Lib.hid (HN5.out.kp hk6 HM5.out.zN); have HK6 := Lib.hid (HK5.out.trans hk6)
                clear htm rd6 hl6 nm6 vb6 hE6 rd1 hl1 nm1 vb1 hv6 hm6 hk6 HWY
                go_wp2_with fail
                refine HTM.out.mono ?_
                rintro e w7 ⟨v7, l7, rfl, ow7, nm7, vb7, -, hb7⟩
                have hv7 := NumV.of_own (N := N) ow7 HM6.out.sz nm7
                rw [vb7] at hv7
                obtain ⟨A7, ln7, c7, l7', rfl, rd7, hl7, nm7', vb7', hE7⟩ := hv7.rd
                have hln7 := hE7 (HNK.out.mono (Nat.le_add_left _ _))
                obtain ⟨An', lnn', cn', ln', en', rdn, hln, nmn, vbn, -⟩ := (HN6.out.bel hb7).rd
                simp only [Value.slice.injEq] at en'
                obtain ⟨rfl, rfl, rfl⟩ := en'
                have hpl' := plus_u An A7 ln cn ln7 c7 ln' l7' w7 w7.heap.size (Nat.le_refl _) rdn hln rd7 hl7 (by omega) (by omega) nmn nm7'
                rw [vb7', vbn] at hpl'
                have HPU := Lib.hid hpl'
                have HM7 := Lib.hid (HM6.out.bel hb7); have HK7 := Lib.hid (HK6.out.trans (Kp.of hb7))
                clear hpl' rd7 hl7 nm7' vb7' hE7 rdn hln nmn vbn hv7 ow7 nm7 vb7 hb7 HTM
                go_wp2_with fail
                refine HPU.out.mono ?_
                rintro e w8 ⟨v8, l8, rfl, ow8, nm8, vb8, -, hb8⟩
                have hv8 := NumV.of_own (N := N) ow8 HM7.out.sz nm8
                rw [vb8] at hv8
                have HV8 := Lib.hid hv8; have HM8 := Lib.hid (HM7.out.bel hb8); have HK8 := Lib.hid (HK7.out.trans (Kp.of hb8))
                clear hv8 ow8 nm8 vb8 hb8 HPU
                go_wp2_with fail
                go_roundw
                case rel => exact ⟨k + 1, _, _, by congr 1; omega, by omega, HRES, HV8, HM8, HK8⟩
                case measure => simp [intOf]; omega
        · have dq : decide (mm ≤ tq) = false := decide_eq_false q
          have hke : k = tq + 1 - i := by omega
          have hfin : (mids i tq).foldl W (σ, 0) = (σk, nk) := by rw [← midsTo_all, ← hke]; exact HFO.out
          have HFI := Lib.hid hfin
          clear hfin hke
          go_wp2_with fail
          go_ret
          rw [HFI.out]
          exact ⟨_, rfl, HNV.out, HMk.out, HKk.out⟩
end
end Go.Proofs.YtiklbannoinioaaDoor
