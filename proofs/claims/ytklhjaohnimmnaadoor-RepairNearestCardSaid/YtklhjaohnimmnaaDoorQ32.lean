/- The law RepairNearest walked: it returns true. -/
import Derived.Test.YtklhjaohnimmnaaDoorQ27
import Derived.Test.YtklhjaohnimmnaaDoorQ30
import Derived.Test.YtklhjaohnimmnaaDoorQ31
import Derived.Test.YtklhjaohnimmnaaDoorQ20
import Derived.Test.YtklhjaohnimmnaaDoorQ7
namespace Go.Proofs.YtklhjaohnimmnaaDoor
open Go.RowKit BigFrame
set_option linter.unusedVariables false
set_option linter.unusedSimpArgs false
set_option maxRecDepth 100000

/-- What the law finds of a mended sentence. -/
theorem mend_cost {w : World} {G : Gr} {P L I l : List Int} {A : Option Addr} {n c : Nat} {cost : Int} (h : MendG w G P L I A n c cost) (hl : l.length ≤ 1000) (hd : Der G.prods G.start.toNat l) : costA P L I l = edit (nthI P) (nthI L) I l := by
  have hPL : P.length = L.length := by have h1 := h.p; have h2 := h.l; omega
  unfold costA
  rw [if_pos]
  refine ⟨h.pc, h.lc, List.all_eq_true.2 fun x hx => ?_, List.all_eq_true.2 fun x hx => ?_, by have := h.il; omega, hl⟩
  · have h1 := h.i x hx
    have h2 := h.p
    exact insB_iff.2 ⟨h1.1, by omega⟩
  · obtain ⟨k, hk⟩ := hd
    obtain ⟨T, hT⟩ := Int.eq_ofNat_of_zero_le h.ok.t0
    have h1 := der_dig (ps := G.prods) (T := T) (fun p hp s hs => by have := ((h.ok.pr p hp).s s hs).2; omega) k _ l hk x hx
    have h2 := h.p
    exact insB_iff.2 ⟨h1.1, by omega⟩
theorem mend_has {w : World} {G : Gr} {P L I : List Int} {A : Option Addr} {n c : Nat} {cost : Int} (h : MendG w G P L I A n c cost) : cost = 0 ↔ Der G.prods G.start.toNat I := by
  obtain ⟨l, hl, _, hd, hc, hk⟩ := h.m
  have h1 := h.p; have h2 := h.l
  refine mended_zero (put := nthI P) (leave := nthI L) (inp := I) (ps := G.prods) (costs_nth h.pc) (costs_nth h.lc) hd (fun t ht => ?_) (fun t ht => ?_) hc (by have := h.il; omega) (fun s hs hs2 => (hk s hs hs2).1)
  · obtain ⟨k, hk⟩ := hd
    obtain ⟨T, hT⟩ := Int.eq_ofNat_of_zero_le h.ok.t0
    have h3 := der_dig (ps := G.prods) (T := T) (fun p hp s hs => by have := ((h.ok.pr p hp).s s hs).2; omega) k _ l hk t ht
    unfold nthI
    rw [nth_get (by omega)]
    exact (costB_iff.1 (List.all_eq_true.1 h.pc _ (List.getElem_mem _))).1
  · have h3 := h.i t ht
    unfold nthI
    rw [nth_get (by omega)]
    exact (costB_iff.1 (List.all_eq_true.1 h.lc _ (List.getElem_mem _))).1
theorem exB (p : Prop) : ∃ b : Bool, b = true ↔ p := by
  by_cases h : p
  · exact ⟨true, by simp [h]⟩
  · exact ⟨false, by simp [h]⟩

set_option maxHeartbeats 2000000 in
theorem nearest_law (G : Gr) (Ap Al As : Option Addr) (np cp nl cl ns cs : Nat) (A1 A2 A3 A4 : Option Addr) (n1 c1 n2 c2 n3 c3 n4 c4 : Nat) (P L I O : List Int) (w : World) (B : Nat) (hB : B ≤ w.heap.size) (hG : GrIn w B G Ap Al As np cp nl cl ns cs) (E : Nat → Addr) (hE : ErW w B E)
    (h1 : RdI w B A1 P) (h2 : RdI w B A2 L) (h3 : RdI w B A3 I) (h4 : RdI w B A4 O) (l1 : P.length = n1) (l2 : L.length = n2) (l3 : I.length = n3) (l4 : O.length = n4) (m1 : n1 ≤ maxLen) (m2 : n2 ≤ maxLen) (m3 : n3 ≤ c3) (m4 : c3 ≤ maxLen) (m5 : n4 ≤ maxLen) :
    Calls Tryd.prog 3 #[.agg #[.int .i64 G.terms, .int .i64 G.names, .int .i64 G.start, .slice Ap np cp, .slice Al nl cl, .slice As ns cs], .agg #[.slice A1 n1 c1, .slice A2 n2 c2], .slice A3 n3 c3, .slice A4 n4 c4] w fun e w' => e = .returned (.bool true) ∧ Below w.heap.size w w' := by
  obtain ⟨hb0, hs0, gb⟩ := gbox w G Ap Al As np cp nl cl ns cs
  obtain ⟨w0, hw0⟩ : ∃ w0, w0 = (w.alloc (.cells #[.int .i64 G.terms, .int .i64 G.names, .int .i64 G.start, .slice Ap np cp, .slice Al nl cl, .slice As ns cs] 25)).alloc (.cells #[.slice A1 n1 c1, .slice A2 n2 c2] 27) := ⟨_, rfl⟩
  have hb1 : Below (w.heap.size + 1) (w.alloc (.cells #[.int .i64 G.terms, .int .i64 G.names, .int .i64 G.start, .slice Ap np cp, .slice Al nl cl, .slice As ns cs] 25)) w0 := by rw [hw0]; exact (Below.refl _ _).alloc (by omega) _
  have hb2 : Below w.heap.size w w0 := hb0.trans (hb1.mono (by omega))
  have hcb : Blk w0 (w.heap.size + 1) 27 [.slice A1 n1 c1, .slice A2 n2 c2] := by rw [hw0, ← hs0]; exact Blk.new _ 27 [.slice A1 n1 c1, .slice A2 n2 c2]
  have hgb := gb.below hb1 (by omega)
  have hz0 : w.heap.size + 2 = w0.heap.size := by rw [hw0]; simp
  have hlM1 := hG.lm; have hlM2 := hG.sm; have hpM := hG.p.len.2
  have key : ∀ wk, Below (w.heap.size + 2) w0 wk → GrBox wk w.heap.size G Ap Al As np cp nl cl ns cs ∧ GrIn wk B G Ap Al As np cp nl cl ns cs ∧ Blk wk (w.heap.size + 1) 27 [.slice A1 n1 c1, .slice A2 n2 c2] ∧ (RdI wk B A1 P ∧ RdI wk B A2 L ∧ RdI wk B A3 I ∧ RdI wk B A4 O) ∧ ErW wk B E ∧ B ≤ wk.heap.size ∧ w.heap.size + 2 ≤ wk.heap.size ∧ Below w.heap.size w wk := fun wk h => by
    have hz := h.size
    have hbw : Below w.heap.size w wk := hb2.trans (h.mono (by omega))
    have hbB := hbw.mono hB
    exact ⟨hgb.below h (by omega), hG.below hbB, hcb.below h (by omega), ⟨h1.below hbB, h2.below hbB, h3.below hbB, h4.below hbB⟩, hE.below hbB, by omega, by omega, hbw⟩
  have KEY := Lib.hid key
  have HL1 := Lib.hid l1; have HL2 := Lib.hid l2; have HL3 := Lib.hid l3; have HL4 := Lib.hid l4
  have HM := Lib.hid (show n1 ≤ maxLen ∧ n2 ≤ maxLen ∧ n3 ≤ c3 ∧ c3 ≤ maxLen ∧ n4 ≤ maxLen from ⟨m1, m2, m3, m4, m5⟩)
  have m6 : n3 ≤ 9223372036854775807 := by have := m4; unfold maxLen at this; omega
  unfold maxLen at m1 m2 m4 m5 hlM1 hlM2 hpM
  clear key hb0 hs0 gb hb1 hb2 hcb hgb hz0 hG hE h1 h2 h3 h4 l1 l2 l3 l4
  have HB0 : Hid (Below (w.heap.size + 2) w0 w0) := Lib.hid (Below.refl _ _)
  obtain ⟨hgb, hg, hcb, ⟨r1, r2, r3, r4⟩, he, hzB, hz2, hbW⟩ := KEY.out w0 (Below.refl _ _)
  obtain ⟨g0, g1, g2, g3, g4, g5⟩ := id hgb
  have k0 := hcb.cell (i := 0) rfl
  have k1 := hcb.cell (i := 1) rfl
  have HBW := Lib.hid hbW; have HZ2 := Lib.hid hz2
  have HC := Lib.hid (small_any G Ap Al As np cp nl cl ns cs w0 B hzB hg)
  clear hgb hg hcb r1 r2 r3 r4 he hbW
  generalize smallB G = sm at *
  go_enter Tryd.func3, Tryd.ntmps3
  go_wp2_with fail
  rw [← hw0]
  clear hw0
  refine HC.out.mono ?_
  rintro e w1 ⟨rfl, hb1⟩
  have HB1 : Hid (Below (w.heap.size + 2) w0 w1) := Lib.hid (HB0.out.trans (hb1.mono HZ2.out))
  clear hb1 HC
  clear g0 g1 g2 g3 g4 g5 k0 k1 HBW hzB hz2 HZ2
  obtain ⟨hgb, hg, hcb, ⟨r1, r2, r3, r4⟩, he, hzB, hz2, hbW⟩ := KEY.out w1 (HB1.out)
  obtain ⟨g0, g1, g2, g3, g4, g5⟩ := id hgb
  have k0 := hcb.cell (i := 0) rfl
  have k1 := hcb.cell (i := 1) rfl
  have HBW := Lib.hid hbW; have HZ2 := Lib.hid hz2
  have HC := Lib.hid (fewCosts_any A1 A2 n1 c1 n2 c2 w1 HM.out.1 HM.out.2.1)
  clear hgb hg hcb r1 r2 r3 r4 he hbW
  go_wp2_with fail
  refine HC.out.mono ?_
  rintro e w2 ⟨rfl, hb2⟩
  have HB2 : Hid (Below (w.heap.size + 2) w0 w2) := Lib.hid (HB1.out.trans (hb2.mono HZ2.out))
  clear hb2 HC
  clear g0 g1 g2 g3 g4 g5 k0 k1 HBW hzB hz2 HZ2
  generalize decide (n1 ≤ 10 ∧ n2 ≤ 10) = fc at *
  by_cases hsm : sm = true ∧ fc = true ∧ n3 ≤ 12 ∧ n4 ≤ 12
  rotate_left
  · have HBF := Lib.hid (KEY.out w2 HB2.out).2.2.2.2.2.2.2
    cases sm
    · go_wp2
      all_goals
        go_ret
        exact ⟨rfl, HBF.out⟩
    · cases fc
      · go_wp2
        all_goals
          go_ret
          exact ⟨rfl, HBF.out⟩
      · by_cases q3 : n3 ≤ 12
        · have q : 12 < n4 := by
            apply Classical.byContradiction
            intro h
            exact hsm ⟨rfl, rfl, q3, by omega⟩
          have d3 : decide ((12 : Int) < (n3 : Int)) = false := decide_eq_false (by omega)
          have d4 : decide ((12 : Int) < (n4 : Int)) = true := decide_eq_true (by omega)
          clear hsm
          go_wp2
          all_goals
            go_ret
            exact ⟨rfl, HBF.out⟩
        · have d3 : decide ((12 : Int) < (n3 : Int)) = true := decide_eq_true (by omega)
          clear hsm
          go_wp2
          all_goals
            go_ret
            exact ⟨rfl, HBF.out⟩
  obtain ⟨rfl, rfl, h3, h4⟩ := hsm
  have d3 : decide ((12 : Int) < (n3 : Int)) = false := decide_eq_false (by omega)
  have d4 : decide ((12 : Int) < (n4 : Int)) = false := decide_eq_false (by omega)
  obtain ⟨hgb, hg, hcb, ⟨r1, r2, r3, r4⟩, he, hzB, hz2, hbW⟩ := KEY.out w2 (HB2.out)
  obtain ⟨g0, g1, g2, g3, g4, g5⟩ := id hgb
  have k0 := hcb.cell (i := 0) rfl
  have k1 := hcb.cell (i := 1) rfl
  have HBW := Lib.hid hbW; have HZ2 := Lib.hid hz2
  have HC := Lib.hid (mend_any G Ap Al As np cp nl cl ns cs A1 A2 A3 n1 c1 n2 c2 n3 c3 P L I w2 B hzB hg E he r1 r2 r3 HL1.out HL2.out HL3.out HM.out.1 HM.out.2.1 HM.out.2.2.1 HM.out.2.2.2.1)
  clear hgb hg hcb r1 r2 r3 r4 he hbW
  go_wp2_with fail
  refine HC.out.mono ?_
  rintro e w3 ⟨hb3, hres⟩
  have HB3 : Hid (Below (w.heap.size + 2) w0 w3) := Lib.hid (HB2.out.trans (hb3.mono HZ2.out))
  clear hb3 HC
  clear g0 g1 g2 g3 g4 g5 k0 k1 HBW hzB hz2 HZ2
  rcases hres with ⟨i, hi, rfl⟩ | ⟨A5, n5, c5, cost, rfl, hM⟩
  · as_aux_lemma =>
      obtain ⟨hgb, hg, hcb, ⟨r1, r2, r3, r4⟩, he, hzB, hz2, hbW⟩ := KEY.out w3 (HB3.out)
      obtain ⟨g0, g1, g2, g3, g4, g5⟩ := id hgb
      have k0 := hcb.cell (i := 0) rfl
      have k1 := hcb.cell (i := 1) rfl
      have HBW := Lib.hid hbW; have HZ2 := Lib.hid hz2
      have HC := Lib.hid (code_err i (by omega) w3 B hzB E he)
      clear hgb hg hcb r1 r2 r3 r4 he hbW
      go_wp2_with fail
      refine HC.out.mono ?_
      rintro e w4 ⟨rfl, hb4⟩
      have HB4 : Hid (Below (w.heap.size + 2) w0 w4) := Lib.hid (HB3.out.trans (hb4.mono HZ2.out))
      clear hb4 HC
      clear g0 g1 g2 g3 g4 g5 k0 k1 HBW hzB hz2 HZ2
      have HBF := Lib.hid (KEY.out w4 HB4.out).2.2.2.2.2.2.2
      rcases (show i = 0 ∨ i = 1 ∨ i = 2 by omega) with rfl | rfl | rfl
      all_goals
        go_wp2_with fail
        go_ret
        exact ⟨rfl, HBF.out⟩
  have HMG := Lib.hid hM
  have HOK := Lib.hid hM.ok
  obtain ⟨N, hN⟩ := Int.eq_ofNat_of_zero_le (show 0 ≤ G.names by have := hM.ok.n0; omega)
  have HN := Lib.hid hN
  obtain ⟨l, hl5, hls, hder, hcost, hbest⟩ := hM.m
  have hnb := hM.b
  have HB5' := Lib.hid hnb
  have n5m : n5 ≤ 1000 := hnb.1
  have HL5 := Lib.hid hl5
  have HR5 := Lib.hid hls.rd
  have HCO : Hid (costA P L I l = cost) := Lib.hid (by rw [mend_cost hM (by omega) hder, hcost])
  have HDE := Lib.hid hder
  have HBE := Lib.hid hbest
  obtain ⟨bI, hbI⟩ := exB (Der G.prods G.start.toNat I)
  have dI : (cost == 0) = bI := by
    have h := mend_has hM
    cases bI with
    | true => simpa using h.2 (hbI.1 rfl)
    | false =>
      have : ¬ cost = 0 := fun e => by have := hbI.2 (h.1 e); cases this
      simpa using this
  have HBI := Lib.hid hbI
  obtain ⟨bO, hbO⟩ := exB (Der G.prods G.start.toNat O)
  have HBO := Lib.hid hbO
  have HD3 : Hid (Below w3.heap.size w3 w3) := Lib.hid (Below.refl _ _)
  clear hM hN hls hder hcost hbest hbI hbO hnb hl5
  obtain ⟨hgb, hg, hcb, ⟨r1, r2, r3, r4⟩, he, hzB, hz2, hbW⟩ := KEY.out w3 (HB3.out)
  obtain ⟨g0, g1, g2, g3, g4, g5⟩ := id hgb
  have k0 := hcb.cell (i := 0) rfl
  have k1 := hcb.cell (i := 1) rfl
  have HBW := Lib.hid hbW; have HZ2 := Lib.hid hz2
  have hzd := HD3.out.size
  have r5 := (HR5.out.below HD3.out).more hzd
  have r1' := r1.more hzB
  have r2' := r2.more hzB
  have r3' := r3.more hzB
  have r4' := r4.more hzB
  have HC := Lib.hid (cost_any A1 A2 A3 A5 n1 c1 n2 c2 n3 c3 n5 c5 P L I l w3 w3.heap.size (Nat.le_refl _) r1' r2' r3' r5 HL1.out HL2.out HL3.out HL5.out HM.out.1 HM.out.2.1 (Nat.le_trans HM.out.2.2.1 HM.out.2.2.2.1) (by have h1 := HB5'.out; omega))
  rw [HCO.out] at HC
  clear r5 r1' r2' r3' r4' hzd
  clear hgb hg hcb r1 r2 r3 r4 he hbW
  go_wp2_with fail
  refine HC.out.mono ?_
  rintro e w4 ⟨rfl, hb4⟩
  have HB4 : Hid (Below (w.heap.size + 2) w0 w4) := Lib.hid (HB3.out.trans (hb4.mono HZ2.out))
  have HD4 : Hid (Below w3.heap.size w3 w4) := Lib.hid (HD3.out.trans (hb4.mono HD3.out.size))
  clear hb4 HC
  clear g0 g1 g2 g3 g4 g5 k0 k1 HBW hzB hz2 HZ2
  by_cases h12 : n5 ≤ 12
  · have d5 : decide ((n5 : Int) ≤ 12) = true := decide_eq_true (by omega)
    as_aux_lemma =>
      obtain ⟨hgb, hg, hcb, ⟨r1, r2, r3, r4⟩, he, hzB, hz2, hbW⟩ := KEY.out w4 (HB4.out)
      obtain ⟨g0, g1, g2, g3, g4, g5⟩ := id hgb
      have k0 := hcb.cell (i := 0) rfl
      have k1 := hcb.cell (i := 1) rfl
      have HBW := Lib.hid hbW; have HZ2 := Lib.hid hz2
      have hzd := HD4.out.size
      have r5 := (HR5.out.below HD4.out).more hzd
      have r1' := r1.more hzB
      have r2' := r2.more hzB
      have r3' := r3.more hzB
      have r4' := r4.more hzB
      have HC := Lib.hid (has_any G Ap Al As np cp nl cl ns cs A5 n5 c5 w4.heap.size l w4 B N hzB hg HOK.out HN.out r5 HL5.out (Nat.le_refl _) (by omega) true (by have := HDE.out; simp [this]))
      clear r5 r1' r2' r3' r4' hzd
      clear hgb hg hcb r1 r2 r3 r4 he hbW
      go_wp2_with fail
      refine HC.out.mono ?_
      rintro e w5 ⟨rfl, hb5⟩
      have HB5 : Hid (Below (w.heap.size + 2) w0 w5) := Lib.hid (HB4.out.trans (hb5.mono HZ2.out))
      have HD5 : Hid (Below w3.heap.size w3 w5) := Lib.hid (HD4.out.trans (hb5.mono HD4.out.size))
      clear hb5 HC
      clear g0 g1 g2 g3 g4 g5 k0 k1 HBW hzB hz2 HZ2
      obtain ⟨hgb, hg, hcb, ⟨r1, r2, r3, r4⟩, he, hzB, hz2, hbW⟩ := KEY.out w5 (HB5.out)
      obtain ⟨g0, g1, g2, g3, g4, g5⟩ := id hgb
      have k0 := hcb.cell (i := 0) rfl
      have k1 := hcb.cell (i := 1) rfl
      have HBW := Lib.hid hbW; have HZ2 := Lib.hid hz2
      have hzd := HD5.out.size
      have r5 := (HR5.out.below HD5.out).more hzd
      have r1' := r1.more hzB
      have r2' := r2.more hzB
      have r3' := r3.more hzB
      have r4' := r4.more hzB
      have HC := Lib.hid (has_any G Ap Al As np cp nl cl ns cs A3 n3 c3 w5.heap.size I w5 B N hzB hg HOK.out HN.out r3' HL3.out (Nat.le_refl _) (by omega) bI HBI.out)
      clear r5 r1' r2' r3' r4' hzd
      clear hgb hg hcb r1 r2 r3 r4 he hbW
      go_wp2_with fail
      refine HC.out.mono ?_
      rintro e w6 ⟨rfl, hb6⟩
      have HB6 : Hid (Below (w.heap.size + 2) w0 w6) := Lib.hid (HB5.out.trans (hb6.mono HZ2.out))
      have HD6 : Hid (Below w3.heap.size w3 w6) := Lib.hid (HD5.out.trans (hb6.mono HD5.out.size))
      clear hb6 HC
      clear g0 g1 g2 g3 g4 g5 k0 k1 HBW hzB hz2 HZ2
      obtain ⟨hgb, hg, hcb, ⟨r1, r2, r3, r4⟩, he, hzB, hz2, hbW⟩ := KEY.out w6 (HB6.out)
      obtain ⟨g0, g1, g2, g3, g4, g5⟩ := id hgb
      have k0 := hcb.cell (i := 0) rfl
      have k1 := hcb.cell (i := 1) rfl
      have HBW := Lib.hid hbW; have HZ2 := Lib.hid hz2
      have hzd := HD6.out.size
      have r5 := (HR5.out.below HD6.out).more hzd
      have r1' := r1.more hzB
      have r2' := r2.more hzB
      have r3' := r3.more hzB
      have r4' := r4.more hzB
      have HC := Lib.hid (has_any G Ap Al As np cp nl cl ns cs A4 n4 c4 w6.heap.size O w6 B N hzB hg HOK.out HN.out r4' HL4.out (Nat.le_refl _) (by omega) bO HBO.out)
      clear r5 r1' r2' r3' r4' hzd
      clear hgb hg hcb r1 r2 r3 r4 he hbW
      go_wp2_with fail
      refine HC.out.mono ?_
      rintro e w7 ⟨rfl, hb7⟩
      have HB7 : Hid (Below (w.heap.size + 2) w0 w7) := Lib.hid (HB6.out.trans (hb7.mono HZ2.out))
      have HD7 : Hid (Below w3.heap.size w3 w7) := Lib.hid (HD6.out.trans (hb7.mono HD6.out.size))
      clear hb7 HC
      clear g0 g1 g2 g3 g4 g5 k0 k1 HBW hzB hz2 HZ2
      cases bO
      · have HBF := Lib.hid (KEY.out w7 HB7.out).2.2.2.2.2.2.2
        go_wp2_with fail
        go_ret
        exact ⟨rfl, HBF.out⟩
      have HDO : Hid (Der G.prods G.start.toNat O) := Lib.hid (HBO.out.1 rfl)
      have HCOO : Hid (costA P L I O = edit (nthI P) (nthI L) I O) := Lib.hid (mend_cost HMG.out (by rw [HL4.out]; omega) HDO.out)
      have hbo := HBE.out O HDO.out (by rw [HL4.out]; omega)
      generalize edit (nthI P) (nthI L) I O = cO at *
      obtain ⟨hgb, hg, hcb, ⟨r1, r2, r3, r4⟩, he, hzB, hz2, hbW⟩ := KEY.out w7 (HB7.out)
      obtain ⟨g0, g1, g2, g3, g4, g5⟩ := id hgb
      have k0 := hcb.cell (i := 0) rfl
      have k1 := hcb.cell (i := 1) rfl
      have HBW := Lib.hid hbW; have HZ2 := Lib.hid hz2
      have hzd := HD7.out.size
      have r5 := (HR5.out.below HD7.out).more hzd
      have r1' := r1.more hzB
      have r2' := r2.more hzB
      have r3' := r3.more hzB
      have r4' := r4.more hzB
      have HC := Lib.hid (cost_any A1 A2 A3 A4 n1 c1 n2 c2 n3 c3 n4 c4 P L I O w7 w7.heap.size (Nat.le_refl _) r1' r2' r3' r4' HL1.out HL2.out HL3.out HL4.out HM.out.1 HM.out.2.1 (Nat.le_trans HM.out.2.2.1 HM.out.2.2.2.1) HM.out.2.2.2.2)
      rw [HCOO.out] at HC
      clear r5 r1' r2' r3' r4' hzd
      clear hgb hg hcb r1 r2 r3 r4 he hbW
      go_wp2_with fail
      refine HC.out.mono ?_
      rintro e w8 ⟨rfl, hb8⟩
      have HB8 : Hid (Below (w.heap.size + 2) w0 w8) := Lib.hid (HB7.out.trans (hb8.mono HZ2.out))
      have HD8 : Hid (Below w3.heap.size w3 w8) := Lib.hid (HD7.out.trans (hb8.mono HD7.out.size))
      clear hb8 HC
      clear g0 g1 g2 g3 g4 g5 k0 k1 HBW hzB hz2 HZ2
      obtain ⟨hgb, hg, hcb, ⟨r1, r2, r3, r4⟩, he, hzB, hz2, hbW⟩ := KEY.out w8 (HB8.out)
      obtain ⟨g0, g1, g2, g3, g4, g5⟩ := id hgb
      have k0 := hcb.cell (i := 0) rfl
      have k1 := hcb.cell (i := 1) rfl
      have HBW := Lib.hid hbW; have HZ2 := Lib.hid hz2
      have hzd := HD8.out.size
      have r5 := (HR5.out.below HD8.out).more hzd
      have HC := Lib.hid (earlier_any A4 A5 n4 c4 n5 c5 O l w8 B w8.heap.size r4 HL4.out HM.out.2.2.2.2 r5 HL5.out (by have h1 := HB5'.out; omega))
      have HBF := Lib.hid hbW
      clear r5 hzd
      clear hgb hg hcb r1 r2 r3 r4 he hbW
      obtain ⟨ah, hah⟩ : ∃ ah, ah = earl O l := ⟨_, rfl⟩
      rw [← hah] at HC hbo
      clear hah
      by_cases hlt : cost < cO
      · have d7 : decide (cost < cO) = true := decide_eq_true hlt
        clear hbo
        go_wp2_with fail
        refine HC.out.mono ?_
        rintro e w9 ⟨rfl, nd, rfl⟩
        go_wp2_with fail
        go_ret
        exact ⟨rfl, HBF.out.trans (bel_dnM _ _ _)⟩
      · have e : cost = cO := by omega
        have d7 : decide (cost < cO) = false := decide_eq_false hlt
        obtain rfl : ah = false := hbo.2 e
        subst e
        clear hbo
        go_wp2_with fail
        refine HC.out.mono ?_
        rintro e w9 ⟨rfl, nd, rfl⟩
        go_wp2_with fail
        go_ret
        exact ⟨rfl, HBF.out.trans (bel_dnM _ _ _)⟩
  · have d5 : decide ((n5 : Int) ≤ 12) = false := decide_eq_false (by omega)
    as_aux_lemma =>
      obtain ⟨hgb, hg, hcb, ⟨r1, r2, r3, r4⟩, he, hzB, hz2, hbW⟩ := KEY.out w4 (HB4.out)
      obtain ⟨g0, g1, g2, g3, g4, g5⟩ := id hgb
      have k0 := hcb.cell (i := 0) rfl
      have k1 := hcb.cell (i := 1) rfl
      have HBW := Lib.hid hbW; have HZ2 := Lib.hid hz2
      have hzd := HD4.out.size
      have r5 := (HR5.out.below HD4.out).more hzd
      have r1' := r1.more hzB
      have r2' := r2.more hzB
      have r3' := r3.more hzB
      have r4' := r4.more hzB
      have HC := Lib.hid (has_any G Ap Al As np cp nl cl ns cs A3 n3 c3 w4.heap.size I w4 B N hzB hg HOK.out HN.out r3' HL3.out (Nat.le_refl _) (by omega) bI HBI.out)
      clear r5 r1' r2' r3' r4' hzd
      clear hgb hg hcb r1 r2 r3 r4 he hbW
      go_wp2_with fail
      refine HC.out.mono ?_
      rintro e w5 ⟨rfl, hb5⟩
      have HB5 : Hid (Below (w.heap.size + 2) w0 w5) := Lib.hid (HB4.out.trans (hb5.mono HZ2.out))
      have HD5 : Hid (Below w3.heap.size w3 w5) := Lib.hid (HD4.out.trans (hb5.mono HD4.out.size))
      clear hb5 HC
      clear g0 g1 g2 g3 g4 g5 k0 k1 HBW hzB hz2 HZ2
      obtain ⟨hgb, hg, hcb, ⟨r1, r2, r3, r4⟩, he, hzB, hz2, hbW⟩ := KEY.out w5 (HB5.out)
      obtain ⟨g0, g1, g2, g3, g4, g5⟩ := id hgb
      have k0 := hcb.cell (i := 0) rfl
      have k1 := hcb.cell (i := 1) rfl
      have HBW := Lib.hid hbW; have HZ2 := Lib.hid hz2
      have hzd := HD5.out.size
      have r5 := (HR5.out.below HD5.out).more hzd
      have r1' := r1.more hzB
      have r2' := r2.more hzB
      have r3' := r3.more hzB
      have r4' := r4.more hzB
      have HC := Lib.hid (has_any G Ap Al As np cp nl cl ns cs A4 n4 c4 w5.heap.size O w5 B N hzB hg HOK.out HN.out r4' HL4.out (Nat.le_refl _) (by omega) bO HBO.out)
      clear r5 r1' r2' r3' r4' hzd
      clear hgb hg hcb r1 r2 r3 r4 he hbW
      go_wp2_with fail
      refine HC.out.mono ?_
      rintro e w6 ⟨rfl, hb6⟩
      have HB6 : Hid (Below (w.heap.size + 2) w0 w6) := Lib.hid (HB5.out.trans (hb6.mono HZ2.out))
      have HD6 : Hid (Below w3.heap.size w3 w6) := Lib.hid (HD5.out.trans (hb6.mono HD5.out.size))
      clear hb6 HC
      clear g0 g1 g2 g3 g4 g5 k0 k1 HBW hzB hz2 HZ2
      cases bO
      · have HBF := Lib.hid (KEY.out w6 HB6.out).2.2.2.2.2.2.2
        go_wp2_with fail
        go_ret
        exact ⟨rfl, HBF.out⟩
      have HDO : Hid (Der G.prods G.start.toNat O) := Lib.hid (HBO.out.1 rfl)
      have HCOO : Hid (costA P L I O = edit (nthI P) (nthI L) I O) := Lib.hid (mend_cost HMG.out (by rw [HL4.out]; omega) HDO.out)
      have hbo := HBE.out O HDO.out (by rw [HL4.out]; omega)
      generalize edit (nthI P) (nthI L) I O = cO at *
      obtain ⟨hgb, hg, hcb, ⟨r1, r2, r3, r4⟩, he, hzB, hz2, hbW⟩ := KEY.out w6 (HB6.out)
      obtain ⟨g0, g1, g2, g3, g4, g5⟩ := id hgb
      have k0 := hcb.cell (i := 0) rfl
      have k1 := hcb.cell (i := 1) rfl
      have HBW := Lib.hid hbW; have HZ2 := Lib.hid hz2
      have hzd := HD6.out.size
      have r5 := (HR5.out.below HD6.out).more hzd
      have r1' := r1.more hzB
      have r2' := r2.more hzB
      have r3' := r3.more hzB
      have r4' := r4.more hzB
      have HC := Lib.hid (cost_any A1 A2 A3 A4 n1 c1 n2 c2 n3 c3 n4 c4 P L I O w6 w6.heap.size (Nat.le_refl _) r1' r2' r3' r4' HL1.out HL2.out HL3.out HL4.out HM.out.1 HM.out.2.1 (Nat.le_trans HM.out.2.2.1 HM.out.2.2.2.1) HM.out.2.2.2.2)
      rw [HCOO.out] at HC
      clear r5 r1' r2' r3' r4' hzd
      clear hgb hg hcb r1 r2 r3 r4 he hbW
      go_wp2_with fail
      refine HC.out.mono ?_
      rintro e w7 ⟨rfl, hb7⟩
      have HB7 : Hid (Below (w.heap.size + 2) w0 w7) := Lib.hid (HB6.out.trans (hb7.mono HZ2.out))
      have HD7 : Hid (Below w3.heap.size w3 w7) := Lib.hid (HD6.out.trans (hb7.mono HD6.out.size))
      clear hb7 HC
      clear g0 g1 g2 g3 g4 g5 k0 k1 HBW hzB hz2 HZ2
      obtain ⟨hgb, hg, hcb, ⟨r1, r2, r3, r4⟩, he, hzB, hz2, hbW⟩ := KEY.out w7 (HB7.out)
      obtain ⟨g0, g1, g2, g3, g4, g5⟩ := id hgb
      have k0 := hcb.cell (i := 0) rfl
      have k1 := hcb.cell (i := 1) rfl
      have HBW := Lib.hid hbW; have HZ2 := Lib.hid hz2
      have hzd := HD7.out.size
      have r5 := (HR5.out.below HD7.out).more hzd
      have HC := Lib.hid (earlier_any A4 A5 n4 c4 n5 c5 O l w7 B w7.heap.size r4 HL4.out HM.out.2.2.2.2 r5 HL5.out (by have h1 := HB5'.out; omega))
      have HBF := Lib.hid hbW
      clear r5 hzd
      clear hgb hg hcb r1 r2 r3 r4 he hbW
      obtain ⟨ah, hah⟩ : ∃ ah, ah = earl O l := ⟨_, rfl⟩
      rw [← hah] at HC hbo
      clear hah
      by_cases hlt : cost < cO
      · have d7 : decide (cost < cO) = true := decide_eq_true hlt
        clear hbo
        go_wp2_with fail
        refine HC.out.mono ?_
        rintro e w8 ⟨rfl, nd, rfl⟩
        go_wp2_with fail
        go_ret
        exact ⟨rfl, HBF.out.trans (bel_dnM _ _ _)⟩
      · have e : cost = cO := by omega
        have d7 : decide (cost < cO) = false := decide_eq_false hlt
        obtain rfl : ah = false := hbo.2 e
        subst e
        clear hbo
        go_wp2_with fail
        refine HC.out.mono ?_
        rintro e w8 ⟨rfl, nd, rfl⟩
        go_wp2_with fail
        go_ret
        exact ⟨rfl, HBF.out.trans (bel_dnM _ _ _)⟩
theorem walk_RepairNearest (W : World) (E : Nat → Addr) (hE : ErW W W.heap.size E) (v0 : Value) (w0 : IsGrammar W v0) (v1 : Value) (w1 : IsCosts W v1) (v2 : Value) (w2 : IsInts W v2) (v3 : Value) (w3 : IsInts W v3) :
    Calls Tryd.prog 3 #[v0, v1, v2, v3] W fun e W' => e = .returned (.bool true) ∧ Below W.heap.size W W' := by
  obtain ⟨G, Ap, Al, As, np, cp, nl, cl, ns, cs, rfl, hG⟩ := w0
  obtain ⟨A1, c1, n1, A2, c2, n2, P, L, rfl, l1, m1, r1, l2, m2, r2⟩ := w1
  obtain ⟨A3, n3, c3, I, rfl, l3, q3, m3, r3, _⟩ := w2
  obtain ⟨A4, n4, c4, O, rfl, l4, q4, m4, r4, _⟩ := w3
  exact nearest_law G Ap Al As np cp nl cl ns cs A1 A2 A3 A4 n1 c1 n2 c2 n3 c3 n4 c4 P L I O W W.heap.size (Nat.le_refl _) hG E hE r1 r2 r3 r4 l1 l2 l3 l4 m1 m2 q3 m3 (Nat.le_trans q4 m4)
end Go.Proofs.YtklhjaohnimmnaaDoor
