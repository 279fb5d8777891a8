/- The law ParseAny walked: it returns true. -/
import Derived.Test.YtinejiodnnjpgaaDoorQ32
namespace Go.Proofs.YtinejiodnnjpgaaDoor
open Go.RowKit BigFrame
set_option linter.unusedVariables false
set_option linter.unusedSimpArgs false
set_option maxRecDepth 100000

set_option maxHeartbeats 2000000 in
theorem any_law (G : Gr) (Ap Al As : Option Addr) (np cp nl cl ns cs : Nat) (T : Tb) (Aa : Option Addr) (na ca : Nat) (Ag : Option Addr) (ng cg : Nat) (Ac : Option Addr) (nc cc : Nat) (A2 : Option Addr) (n2 c2 : Nat) (l : List Int) (hl : l.length = n2) (w : World) (B : Nat) (hB : B ≤ w.heap.size) (hG : GrIn w B G Ap Al As np cp nl cl ns cs) (hT : TbIn w B T Aa na ca Ag ng cg) (hI : RdI w B A2 l) (E : Nat → Addr) (hE : ErW w B E) :
    Calls Tryd.prog 5 #[.agg #[.int .i64 G.terms, .int .i64 G.names, .int .i64 G.start, .slice Ap np cp, .slice Al nl cl, .slice As ns cs], .agg #[.slice Aa na ca, .slice Ag ng cg, .slice Ac nc cc], .slice A2 n2 c2] w fun e w' => e = .returned (.bool true) ∧ Below w.heap.size w w' := by
  obtain ⟨w0, hw0, hb0, hs0, hGT⟩ := GTb.mk_ w hB G Ap Al As np cp nl cl ns cs T Aa na ca Ag ng cg (.slice Ac nc cc) hG hT
  have key : ∀ wk, Below (w.heap.size + 2) w0 wk → GTb wk B w.heap.size G Ap Al As np cp nl cl ns cs T Aa na ca Ag ng cg (.slice Ac nc cc) ∧ RdI wk B A2 l ∧ ErW wk B E ∧ B ≤ wk.heap.size ∧ w.heap.size + 2 ≤ wk.heap.size ∧ Below w.heap.size w wk := fun wk h => by
    have hz := h.size
    have hbw : Below w.heap.size w wk := hb0.trans (h.mono (by omega))
    exact ⟨hGT.below h hB, hI.below (hbw.mono hB), hE.below (hbw.mono hB), by omega, by omega, hbw⟩
  have KEY := Lib.hid key; have HL := Lib.hid hl; have HS0 := Lib.hid hs0
  clear key hb0 hGT hG hT hI hE hl
  have HB0 : Hid (Below (w.heap.size + 2) w0 w0) := Lib.hid (Below.refl _ _)
  obtain ⟨hgt, hi, he, hzB, hz2, hbW⟩ := KEY.out w0 (Below.refl _ _)
  obtain ⟨⟨c0, c1, c2', c3, c4, c5⟩, tb, hg, ht⟩ := id hgt
  have t0 := tb.cell (i := 0) rfl
  have t1 := tb.cell (i := 1) rfl
  have t2 := tb.cell (i := 2) rfl
  have HGT := Lib.hid hgt; have HI := Lib.hid hi; have HE := Lib.hid he; have HBW := Lib.hid hbW; have HZ2 := Lib.hid hz2
  have HC := Lib.hid (small_any G Ap Al As np cp nl cl ns cs w0 B hzB hg)
  clear hgt hi he hbW hg ht tb
  generalize smallB G = sm at *
  subst hw0
  go_enter Tryd.func5, Tryd.ntmps5
  go_wp2_with fail
  generalize (w.alloc (.cells #[.int .i64 G.terms, .int .i64 G.names, .int .i64 G.start, .slice Ap np cp, .slice Al nl cl, .slice As ns cs] 34)).alloc (.cells #[.slice Aa na ca, .slice Ag ng cg, .slice Ac nc cc] 47) = w0 at *
  refine HC.out.mono ?_
  rintro e w1 ⟨rfl, hb1⟩
  have HB1 : Hid (Below (w.heap.size + 2) w0 w1) := Lib.hid (HB0.out.trans (hb1.mono HZ2.out))
  clear hb1 HC
  clear c0 c1 c2' c3 c4 c5 t0 t1 t2 HGT HI HE HBW hzB hz2 HZ2
  obtain ⟨hgt, hi, he, hzB, hz2, hbW⟩ := KEY.out w1 (HB1.out)
  obtain ⟨⟨c0, c1, c2', c3, c4, c5⟩, tb, hg, ht⟩ := id hgt
  have t0 := tb.cell (i := 0) rfl
  have t1 := tb.cell (i := 1) rfl
  have t2 := tb.cell (i := 2) rfl
  have HGT := Lib.hid hgt; have HI := Lib.hid hi; have HE := Lib.hid he; have HBW := Lib.hid hbW; have HZ2 := Lib.hid hz2
  have HC := Lib.hid (tabled_any T Aa na ca Ag ng cg (.slice Ac nc cc) w1 B hzB ht)
  clear hgt hi he hbW hg ht tb
  go_wp2_with fail
  refine HC.out.mono ?_
  rintro e w2 ⟨⟨tbd, rfl⟩, hb2⟩
  have HB2 : Hid (Below (w.heap.size + 2) w0 w2) := Lib.hid (HB1.out.trans (hb2.mono HZ2.out))
  clear hb2 HC
  clear c0 c1 c2' c3 c4 c5 t0 t1 t2 HGT HI HE HBW hzB hz2 HZ2
  by_cases hsm : sm = true ∧ tbd = true ∧ n2 ≤ 12
  rotate_left
  · have HBF := Lib.hid (KEY.out w2 HB2.out).2.2.2.2.2
    cases sm
    · go_wp2
      all_goals
        go_ret
        exact ⟨rfl, HBF.out⟩
    · cases tbd
      · go_wp2
        all_goals
          go_ret
          exact ⟨rfl, HBF.out⟩
      · have q : 12 < n2 := by
          apply Classical.byContradiction
          intro h
          exact hsm ⟨rfl, rfl, by omega⟩
        clear hsm
        go_wp2
        all_goals
          go_ret
          exact ⟨rfl, HBF.out⟩
  obtain ⟨rfl, rfl, h12⟩ := hsm
  have q12 : ¬ 12 < n2 := by omega
  by_cases hf : TFits G T
  rotate_left
  · as_aux_lemma =>
      obtain ⟨hgt, hi, he, hzB, hz2, hbW⟩ := KEY.out w2 (HB2.out)
      obtain ⟨⟨c0, c1, c2', c3, c4, c5⟩, tb, hg, ht⟩ := id hgt
      have t0 := tb.cell (i := 0) rfl
      have t1 := tb.cell (i := 1) rfl
      have t2 := tb.cell (i := 2) rfl
      have HGT := Lib.hid hgt; have HI := Lib.hid hi; have HE := Lib.hid he; have HBW := Lib.hid hbW; have HZ2 := Lib.hid hz2
      have HC := Lib.hid (rfits_any G Ap Al As np cp nl cl ns cs T Aa na ca Ag ng cg (.slice Ac nc cc) w2 B hzB hg ht)
      rw [fitB_f hf] at HC
      clear hgt hi he hbW hg ht tb
      go_wp2_with fail
      refine HC.out.mono ?_
      rintro e w3 ⟨rfl, hb3⟩
      have HB3 : Hid (Below (w.heap.size + 2) w0 w3) := Lib.hid (HB2.out.trans (hb3.mono HZ2.out))
      clear hb3 HC
      clear c0 c1 c2' c3 c4 c5 t0 t1 t2 HGT HI HE HBW hzB hz2 HZ2
      obtain ⟨hgt, hi, he, hzB, hz2, hbW⟩ := KEY.out w3 (HB3.out)
      obtain ⟨⟨c0, c1, c2', c3, c4, c5⟩, tb, hg, ht⟩ := id hgt
      have t0 := tb.cell (i := 0) rfl
      have t1 := tb.cell (i := 1) rfl
      have t2 := tb.cell (i := 2) rfl
      have HGT := Lib.hid hgt; have HI := Lib.hid hi; have HE := Lib.hid he; have HBW := Lib.hid hbW; have HZ2 := Lib.hid hz2
      have HC := Lib.hid (pfits_any G Ap Al As np cp nl cl ns cs T Aa na ca Ag ng cg (.slice Ac nc cc) w3 B hzB hg ht)
      rw [fitB_f hf] at HC
      clear hgt hi he hbW hg ht tb
      go_wp2_with fail
      refine HC.out.mono ?_
      rintro e w4 ⟨rfl, hb4⟩
      have HB4 : Hid (Below (w.heap.size + 2) w0 w4) := Lib.hid (HB3.out.trans (hb4.mono HZ2.out))
      clear hb4 HC
      clear c0 c1 c2' c3 c4 c5 t0 t1 t2 HGT HI HE HBW hzB hz2 HZ2
      obtain ⟨hgt, hi, he, hzB, hz2, hbW⟩ := KEY.out w4 (HB4.out)
      obtain ⟨⟨c0, c1, c2', c3, c4, c5⟩, tb, hg, ht⟩ := id hgt
      have t0 := tb.cell (i := 0) rfl
      have t1 := tb.cell (i := 1) rfl
      have t2 := tb.cell (i := 2) rfl
      have HGT := Lib.hid hgt; have HI := Lib.hid hi; have HE := Lib.hid he; have HBW := Lib.hid hbW; have HZ2 := Lib.hid hz2
      have HC := Lib.hid (parse_no G Ap Al As np cp nl cl ns cs T Aa na ca Ag ng cg Ac nc cc A2 n2 c2 w4 B hzB hg ht hf E he)
      clear hgt hi he hbW hg ht tb
      go_wp2_with fail
      refine HC.out.mono ?_
      rintro e w5 ⟨rfl, hb5⟩
      have HB5 : Hid (Below (w.heap.size + 2) w0 w5) := Lib.hid (HB4.out.trans (hb5.mono HZ2.out))
      clear hb5 HC
      clear c0 c1 c2' c3 c4 c5 t0 t1 t2 HGT HI HE HBW hzB hz2 HZ2
      obtain ⟨hgt, hi, he, hzB, hz2, hbW⟩ := KEY.out w5 (HB5.out)
      obtain ⟨⟨c0, c1, c2', c3, c4, c5⟩, tb, hg, ht⟩ := id hgt
      have t0 := tb.cell (i := 0) rfl
      have t1 := tb.cell (i := 1) rfl
      have t2 := tb.cell (i := 2) rfl
      have HGT := Lib.hid hgt; have HI := Lib.hid hi; have HE := Lib.hid he; have HBW := Lib.hid hbW; have HZ2 := Lib.hid hz2
      have HC := Lib.hid (pnext_no G Ap Al As np cp nl cl ns cs T Aa na ca Ag ng cg Ac nc cc A2 n2 c2 w5 B hzB hg ht hf)
      clear hgt hi he hbW hg ht tb
      go_wp2_with fail
      refine HC.out.mono ?_
      rintro e w6 ⟨An, cn, rfl, hrn, hb6⟩
      have HB6 : Hid (Below (w.heap.size + 2) w0 w6) := Lib.hid (HB5.out.trans (hb6.mono HZ2.out))
      clear hb6 HC
      clear c0 c1 c2' c3 c4 c5 t0 t1 t2 HGT HI HE HBW hzB hz2 HZ2
      obtain ⟨hgt, hi, he, hzB, hz2, hbW⟩ := KEY.out w6 (HB6.out)
      obtain ⟨⟨c0, c1, c2', c3, c4, c5⟩, tb, hg, ht⟩ := id hgt
      have t0 := tb.cell (i := 0) rfl
      have t1 := tb.cell (i := 1) rfl
      have t2 := tb.cell (i := 2) rfl
      have HGT := Lib.hid hgt; have HI := Lib.hid hi; have HE := Lib.hid he; have HBW := Lib.hid hbW; have HZ2 := Lib.hid hz2
      have HC := Lib.hid (code_err 0 (by omega) w6 B hzB E he)
      clear hgt hi he hbW hg ht tb
      go_wp2_with fail
      refine HC.out.mono ?_
      rintro e w7 ⟨rfl, hb7⟩
      have HB7 : Hid (Below (w.heap.size + 2) w0 w7) := Lib.hid (HB6.out.trans (hb7.mono HZ2.out))
      clear hb7 HC
      clear c0 c1 c2' c3 c4 c5 t0 t1 t2 HGT HI HE HBW hzB hz2 HZ2
      have HBF := Lib.hid (KEY.out w7 HB7.out).2.2.2.2.2
      go_wp2_with fail
      go_ret
      exact ⟨rfl, HBF.out⟩
  obtain ⟨hgt, hi, he, hzB, hz2, hbW⟩ := KEY.out w2 (HB2.out)
  obtain ⟨⟨c0, c1, c2', c3, c4, c5⟩, tb, hg, ht⟩ := id hgt
  have t0 := tb.cell (i := 0) rfl
  have t1 := tb.cell (i := 1) rfl
  have t2 := tb.cell (i := 2) rfl
  have HGT := Lib.hid hgt; have HI := Lib.hid hi; have HE := Lib.hid he; have HBW := Lib.hid hbW; have HZ2 := Lib.hid hz2
  have HC := Lib.hid (rfits_any G Ap Al As np cp nl cl ns cs T Aa na ca Ag ng cg (.slice Ac nc cc) w2 B hzB hg ht)
  rw [fitB_t hf] at HC
  clear hgt hi he hbW hg ht tb
  go_wp2_with fail
  refine HC.out.mono ?_
  rintro e w3 ⟨rfl, hb3⟩
  have HB3 : Hid (Below (w.heap.size + 2) w0 w3) := Lib.hid (HB2.out.trans (hb3.mono HZ2.out))
  clear hb3 HC
  clear c0 c1 c2' c3 c4 c5 t0 t1 t2 HGT HI HE HBW hzB hz2 HZ2
  obtain ⟨hgt, hi, he, hzB, hz2, hbW⟩ := KEY.out w3 (HB3.out)
  obtain ⟨⟨c0, c1, c2', c3, c4, c5⟩, tb, hg, ht⟩ := id hgt
  have t0 := tb.cell (i := 0) rfl
  have t1 := tb.cell (i := 1) rfl
  have t2 := tb.cell (i := 2) rfl
  have HGT := Lib.hid hgt; have HI := Lib.hid hi; have HE := Lib.hid he; have HBW := Lib.hid hbW; have HZ2 := Lib.hid hz2
  have HC := Lib.hid (pfits_any G Ap Al As np cp nl cl ns cs T Aa na ca Ag ng cg (.slice Ac nc cc) w3 B hzB hg ht)
  rw [fitB_t hf] at HC
  clear hgt hi he hbW hg ht tb
  go_wp2_with fail
  refine HC.out.mono ?_
  rintro e w4 ⟨rfl, hb4⟩
  have HB4 : Hid (Below (w.heap.size + 2) w0 w4) := Lib.hid (HB3.out.trans (hb4.mono HZ2.out))
  clear hb4 HC
  clear c0 c1 c2' c3 c4 c5 t0 t1 t2 HGT HI HE HBW hzB hz2 HZ2
  obtain ⟨hgt, hi, he, hzB, hz2, hbW⟩ := KEY.out w4 (HB4.out)
  obtain ⟨⟨c0, c1, c2', c3, c4, c5⟩, tb, hg, ht⟩ := id hgt
  have t0 := tb.cell (i := 0) rfl
  have t1 := tb.cell (i := 1) rfl
  have t2 := tb.cell (i := 2) rfl
  have HGT := Lib.hid hgt; have HI := Lib.hid hi; have HE := Lib.hid he; have HBW := Lib.hid hbW; have HZ2 := Lib.hid hz2
  have HC := Lib.hid (parse_any G Ap Al As np cp nl cl ns cs T Aa na ca Ag ng cg Ac nc cc A2 n2 c2 l HL.out w4 B hzB hg ht hi h12 hf E he)
  clear hgt hi he hbW hg ht tb
  cases hp : parseP G T l with
  | error q =>
    obtain ⟨c, i⟩ := q
    as_aux_lemma =>
      have HCD := Lib.hid (parse_code hp)
      rw [hp] at HC
      go_wp2_with fail
      refine HC.out.mono ?_
      rintro e w5 ⟨⟨pb, rfl, hpb, hpc0, hpc1⟩, hb5⟩
      have HB5 : Hid (Below (w.heap.size + 2) w0 w5) := Lib.hid (HB4.out.trans (hb5.mono HZ2.out))
      have HP : Hid (pb < w5.heap.size ∧ w5.cell? ⟨pb, 0, none⟩ = some (ew (E c)) ∧ w5.cell? ⟨pb, 1, none⟩ = some (.int .i64 (i : Int))) := Lib.hid ⟨hpb, hpc0, hpc1⟩
      clear hpb hpc0 hpc1
      clear hb5 HC
      clear c0 c1 c2' c3 c4 c5 t0 t1 t2 HGT HI HE HBW hzB hz2 HZ2
      obtain ⟨hgt, hi, he, hzB, hz2, hbW⟩ := KEY.out w5 (HB5.out)
      obtain ⟨⟨c0, c1, c2', c3, c4, c5⟩, tb, hg, ht⟩ := id hgt
      have t0 := tb.cell (i := 0) rfl
      have t1 := tb.cell (i := 1) rfl
      have t2 := tb.cell (i := 2) rfl
      have HGT := Lib.hid hgt; have HI := Lib.hid hi; have HE := Lib.hid he; have HBW := Lib.hid hbW; have HZ2 := Lib.hid hz2
      have HC := Lib.hid (pnext_any G Ap Al As np cp nl cl ns cs T Aa na ca Ag ng cg Ac nc cc A2 n2 c2 l HL.out w5 B hzB hg ht hi h12 hf E he)
      clear hgt hi he hbW hg ht tb
      go_wp2_with fail
      refine HC.out.mono ?_
      rintro e w6 ⟨An, cn, rfl, hrn, hb6⟩
      have HB6 : Hid (Below (w.heap.size + 2) w0 w6) := Lib.hid (HB5.out.trans (hb6.mono HZ2.out))
      have HN6 := Lib.hid hrn
      have HB56 := Lib.hid hb6
      clear hrn
      clear hb6 HC
      clear c0 c1 c2' c3 c4 c5 t0 t1 t2 HGT HI HE HBW hzB hz2 HZ2
      obtain ⟨hgt, hi, he, hzB, hz2, hbW⟩ := KEY.out w6 (HB6.out)
      obtain ⟨⟨c0, c1, c2', c3, c4, c5⟩, tb, hg, ht⟩ := id hgt
      have t0 := tb.cell (i := 0) rfl
      have t1 := tb.cell (i := 1) rfl
      have t2 := tb.cell (i := 2) rfl
      have HGT := Lib.hid hgt; have HI := Lib.hid hi; have HE := Lib.hid he; have HBW := Lib.hid hbW; have HZ2 := Lib.hid hz2
      have HC := Lib.hid (rparse_any G Ap Al As np cp nl cl ns cs T Aa na ca Ag ng cg (.slice Ac nc cc) A2 n2 c2 l HL.out w6 B hzB hg ht hi h12 hf E he)
      rw [hp] at HC
      clear hgt hi he hbW hg ht tb
      go_wp2_with fail
      refine HC.out.mono ?_
      rintro e w7 ⟨rfl, hb7⟩
      have HB7 : Hid (Below (w.heap.size + 2) w0 w7) := Lib.hid (HB6.out.trans (hb7.mono HZ2.out))
      have HB67 := Lib.hid hb7
      clear hb7 HC
      clear c0 c1 c2' c3 c4 c5 t0 t1 t2 HGT HI HE HBW hzB hz2 HZ2
      obtain ⟨hgt, hi, he, hzB, hz2, hbW⟩ := KEY.out w7 (HB7.out)
      obtain ⟨⟨c0, c1, c2', c3, c4, c5⟩, tb, hg, ht⟩ := id hgt
      have t0 := tb.cell (i := 0) rfl
      have t1 := tb.cell (i := 1) rfl
      have t2 := tb.cell (i := 2) rfl
      have HGT := Lib.hid hgt; have HI := Lib.hid hi; have HE := Lib.hid he; have HBW := Lib.hid hbW; have HZ2 := Lib.hid hz2
      have hb57 : Below w5.heap.size w5 w7 := HB56.out.trans (HB67.out.mono HB56.out.size)
      have HC := Lib.hid (told_fault c HCD.out w7 B hzB E he pb 0 (i : Int) (Nat.lt_of_lt_of_le HP.out.1 hb57.size) ((hb57.cell (p := ⟨pb, 0, none⟩) HP.out.1).trans HP.out.2.1) ((hb57.cell (p := ⟨pb, 1, none⟩) HP.out.1).trans HP.out.2.2))
      clear hb57
      clear hgt hi he hbW hg ht tb
      go_wp2_with fail
      refine HC.out.mono ?_
      rintro e w8 ⟨rfl, hb8⟩
      have HB8 : Hid (Below (w.heap.size + 2) w0 w8) := Lib.hid (HB7.out.trans (hb8.mono HZ2.out))
      have HB78 := Lib.hid hb8
      clear hb8 HC
      clear c0 c1 c2' c3 c4 c5 t0 t1 t2 HGT HI HE HBW hzB hz2 HZ2
      obtain ⟨hgt, hi, he, hzB, hz2, hbW⟩ := KEY.out w8 (HB8.out)
      obtain ⟨⟨c0, c1, c2', c3, c4, c5⟩, tb, hg, ht⟩ := id hgt
      have t0 := tb.cell (i := 0) rfl
      have t1 := tb.cell (i := 1) rfl
      have t2 := tb.cell (i := 2) rfl
      have HGT := Lib.hid hgt; have HI := Lib.hid hi; have HE := Lib.hid he; have HBW := Lib.hid hbW; have HZ2 := Lib.hid hz2
      have HC := Lib.hid (same_any w8.heap.size 1 (by decide) .nil (by simp [szT]) (.pointer none) (.pointer none) w8 (Nat.le_refl _) (by rw [TrB, TrIn]) (by rw [TrB, TrIn]))
      clear hgt hi he hbW hg ht tb
      go_wp2_with fail
      refine HC.out.mono ?_
      rintro e w9 ⟨rfl, hb9⟩
      have HB9 : Hid (Below (w.heap.size + 2) w0 w9) := Lib.hid (HB8.out.trans (hb9.mono HZ2.out))
      have HB89 := Lib.hid hb9
      clear hb9 HC
      clear c0 c1 c2' c3 c4 c5 t0 t1 t2 HGT HI HE HBW hzB hz2 HZ2
      obtain ⟨hgt, hi, he, hzB, hz2, hbW⟩ := KEY.out w9 (HB9.out)
      obtain ⟨⟨c0, c1, c2', c3, c4, c5⟩, tb, hg, ht⟩ := id hgt
      have t0 := tb.cell (i := 0) rfl
      have t1 := tb.cell (i := 1) rfl
      have t2 := tb.cell (i := 2) rfl
      have HGT := Lib.hid hgt; have HI := Lib.hid hi; have HE := Lib.hid he; have HBW := Lib.hid hbW; have HZ2 := Lib.hid hz2
      have HC := Lib.hid (rnext_any G Ap Al As np cp nl cl ns cs T Aa na ca Ag ng cg (.slice Ac nc cc) A2 n2 c2 l HL.out w9 B hzB hg ht hi h12 hf E he)
      clear hgt hi he hbW hg ht tb
      go_wp2_with fail
      refine HC.out.mono ?_
      rintro e w10 ⟨Am, cm, rfl, hrm, hb10⟩
      have HB10 : Hid (Below (w.heap.size + 2) w0 w10) := Lib.hid (HB9.out.trans (hb10.mono HZ2.out))
      have HN10 := Lib.hid hrm
      have HB910 := Lib.hid hb10
      clear hrm
      clear hb10 HC
      clear c0 c1 c2' c3 c4 c5 t0 t1 t2 HGT HI HE HBW hzB hz2 HZ2
      have hb610 : Below w6.heap.size w6 w10 := HB67.out.trans ((HB78.out.trans ((HB89.out.trans (HB910.out.mono HB89.out.size)).mono HB78.out.size)).mono HB67.out.size)
      have HC := Lib.hid (sameInts_any An Am cn cm (nextP G T l).length (nextP G T l).length (nextP G T l) (nextP G T l) w10 w10.heap.size ((HN6.out.below hb610).more hb610.size) HN10.out rfl rfl (by have := next_len (l := l) hf; unfold maxLen; omega))
      have HBF := Lib.hid (KEY.out w10 HB10.out).2.2.2.2.2
      rw [decide_eq_true rfl] at HC
      clear hb610
      go_wp2_with fail
      refine HC.out.mono ?_
      rintro e w11 ⟨rfl, nd, rfl⟩
      go_wp2_with fail
      go_ret
      exact ⟨rfl, HBF.out.trans (bel_dn _ _ _)⟩
  | ok t =>
    as_aux_lemma =>
      have HSZ : Hid (szT t ≤ 1000000) := Lib.hid (by have h1 := parse_sz hp; have h2 := HL.out; omega)
      rw [hp] at HC
      go_wp2_with fail
      refine HC.out.mono ?_
      rintro e w5 ⟨⟨v, rfl, hv⟩, hb5⟩
      have HB5 : Hid (Below (w.heap.size + 2) w0 w5) := Lib.hid (HB4.out.trans (hb5.mono HZ2.out))
      have HV := Lib.hid hv
      obtain ⟨pv, rfl⟩ := hv.ptr
      clear hv
      clear hb5 HC
      clear c0 c1 c2' c3 c4 c5 t0 t1 t2 HGT HI HE HBW hzB hz2 HZ2
      obtain ⟨hgt, hi, he, hzB, hz2, hbW⟩ := KEY.out w5 (HB5.out)
      obtain ⟨⟨c0, c1, c2', c3, c4, c5⟩, tb, hg, ht⟩ := id hgt
      have t0 := tb.cell (i := 0) rfl
      have t1 := tb.cell (i := 1) rfl
      have t2 := tb.cell (i := 2) rfl
      have HGT := Lib.hid hgt; have HI := Lib.hid hi; have HE := Lib.hid he; have HBW := Lib.hid hbW; have HZ2 := Lib.hid hz2
      have HC := Lib.hid (pnext_any G Ap Al As np cp nl cl ns cs T Aa na ca Ag ng cg Ac nc cc A2 n2 c2 l HL.out w5 B hzB hg ht hi h12 hf E he)
      clear hgt hi he hbW hg ht tb
      go_wp2_with fail
      refine HC.out.mono ?_
      rintro e w6 ⟨An, cn, rfl, hrn, hb6⟩
      have HB6 : Hid (Below (w.heap.size + 2) w0 w6) := Lib.hid (HB5.out.trans (hb6.mono HZ2.out))
      have HN6 := Lib.hid hrn
      have HB56 := Lib.hid hb6
      clear hrn
      clear hb6 HC
      clear c0 c1 c2' c3 c4 c5 t0 t1 t2 HGT HI HE HBW hzB hz2 HZ2
      obtain ⟨hgt, hi, he, hzB, hz2, hbW⟩ := KEY.out w6 (HB6.out)
      obtain ⟨⟨c0, c1, c2', c3, c4, c5⟩, tb, hg, ht⟩ := id hgt
      have t0 := tb.cell (i := 0) rfl
      have t1 := tb.cell (i := 1) rfl
      have t2 := tb.cell (i := 2) rfl
      have HGT := Lib.hid hgt; have HI := Lib.hid hi; have HE := Lib.hid he; have HBW := Lib.hid hbW; have HZ2 := Lib.hid hz2
      have HC := Lib.hid (rparse_any G Ap Al As np cp nl cl ns cs T Aa na ca Ag ng cg (.slice Ac nc cc) A2 n2 c2 l HL.out w6 B hzB hg ht hi h12 hf E he)
      rw [hp] at HC
      clear hgt hi he hbW hg ht tb
      go_wp2_with fail
      refine HC.out.mono ?_
      rintro e w7 ⟨⟨v2, rfl, hv2⟩, hb7⟩
      have HB7 : Hid (Below (w.heap.size + 2) w0 w7) := Lib.hid (HB6.out.trans (hb7.mono HZ2.out))
      have HV2 := Lib.hid hv2
      obtain ⟨pv2, rfl⟩ := hv2.ptr
      have HB67 := Lib.hid hb7
      clear hv2
      clear hb7 HC
      clear c0 c1 c2' c3 c4 c5 t0 t1 t2 HGT HI HE HBW hzB hz2 HZ2
      obtain ⟨hgt, hi, he, hzB, hz2, hbW⟩ := KEY.out w7 (HB7.out)
      obtain ⟨⟨c0, c1, c2', c3, c4, c5⟩, tb, hg, ht⟩ := id hgt
      have t0 := tb.cell (i := 0) rfl
      have t1 := tb.cell (i := 1) rfl
      have t2 := tb.cell (i := 2) rfl
      have HGT := Lib.hid hgt; have HI := Lib.hid hi; have HE := Lib.hid he; have HBW := Lib.hid hbW; have HZ2 := Lib.hid hz2
      have HC := Lib.hid ((told_nil 0 w7).mono fun e w' (h : _ ∧ w' = w7) => (⟨h.1, by rw [h.2]; exact Below.refl _ _⟩ : _ ∧ Below w7.heap.size w7 w'))
      clear hgt hi he hbW hg ht tb
      go_wp2_with fail
      refine HC.out.mono ?_
      rintro e w8 ⟨rfl, hb8⟩
      have HB8 : Hid (Below (w.heap.size + 2) w0 w8) := Lib.hid (HB7.out.trans (hb8.mono HZ2.out))
      have HB78 := Lib.hid hb8
      clear hb8 HC
      clear c0 c1 c2' c3 c4 c5 t0 t1 t2 HGT HI HE HBW hzB hz2 HZ2
      obtain ⟨hgt, hi, he, hzB, hz2, hbW⟩ := KEY.out w8 (HB8.out)
      obtain ⟨⟨c0, c1, c2', c3, c4, c5⟩, tb, hg, ht⟩ := id hgt
      have t0 := tb.cell (i := 0) rfl
      have t1 := tb.cell (i := 1) rfl
      have t2 := tb.cell (i := 2) rfl
      have HGT := Lib.hid hgt; have HI := Lib.hid hi; have HE := Lib.hid he; have HBW := Lib.hid hbW; have HZ2 := Lib.hid hz2
      have hb57 : Below w5.heap.size w5 w8 := HB56.out.trans ((HB67.out.mono HB56.out.size).trans (HB78.out.mono (Nat.le_trans HB56.out.size HB67.out.size)))
      have HC := Lib.hid (same_any w8.heap.size 100000000 (Nat.le_refl _) t (by have := HSZ.out; omega) (.pointer pv) (.pointer pv2) w8 (Nat.le_refl _) ((HV.out.below hb57).more hb57.size) ((HV2.out.below HB78.out).more HB78.out.size))
      clear hb57
      clear hgt hi he hbW hg ht tb
      go_wp2_with fail
      refine HC.out.mono ?_
      rintro e w9 ⟨rfl, hb9⟩
      have HB9 : Hid (Below (w.heap.size + 2) w0 w9) := Lib.hid (HB8.out.trans (hb9.mono HZ2.out))
      have HB89 := Lib.hid hb9
      clear hb9 HC
      clear c0 c1 c2' c3 c4 c5 t0 t1 t2 HGT HI HE HBW hzB hz2 HZ2
      obtain ⟨hgt, hi, he, hzB, hz2, hbW⟩ := KEY.out w9 (HB9.out)
      obtain ⟨⟨c0, c1, c2', c3, c4, c5⟩, tb, hg, ht⟩ := id hgt
      have t0 := tb.cell (i := 0) rfl
      have t1 := tb.cell (i := 1) rfl
      have t2 := tb.cell (i := 2) rfl
      have HGT := Lib.hid hgt; have HI := Lib.hid hi; have HE := Lib.hid he; have HBW := Lib.hid hbW; have HZ2 := Lib.hid hz2
      have HC := Lib.hid (rnext_any G Ap Al As np cp nl cl ns cs T Aa na ca Ag ng cg (.slice Ac nc cc) A2 n2 c2 l HL.out w9 B hzB hg ht hi h12 hf E he)
      clear hgt hi he hbW hg ht tb
      go_wp2_with fail
      refine HC.out.mono ?_
      rintro e w10 ⟨Am, cm, rfl, hrm, hb10⟩
      have HB10 : Hid (Below (w.heap.size + 2) w0 w10) := Lib.hid (HB9.out.trans (hb10.mono HZ2.out))
      have HN10 := Lib.hid hrm
      have HB910 := Lib.hid hb10
      clear hrm
      clear hb10 HC
      clear c0 c1 c2' c3 c4 c5 t0 t1 t2 HGT HI HE HBW hzB hz2 HZ2
      have hb610 : Below w6.heap.size w6 w10 := HB67.out.trans ((HB78.out.trans ((HB89.out.trans (HB910.out.mono HB89.out.size)).mono HB78.out.size)).mono HB67.out.size)
      have HC := Lib.hid (sameInts_any An Am cn cm (nextP G T l).length (nextP G T l).length (nextP G T l) (nextP G T l) w10 w10.heap.size ((HN6.out.below hb610).more hb610.size) HN10.out rfl rfl (by have := next_len (l := l) hf; unfold maxLen; omega))
      have HBF := Lib.hid (KEY.out w10 HB10.out).2.2.2.2.2
      rw [decide_eq_true rfl] at HC
      clear hb610
      go_wp2_with fail
      refine HC.out.mono ?_
      rintro e w11 ⟨rfl, nd, rfl⟩
      go_wp2_with fail
      go_ret
      exact ⟨rfl, HBF.out.trans (bel_dn _ _ _)⟩
theorem walk_ParseAny (W : World) (E : Nat → Addr) (hE : ErW W W.heap.size E) (v0 : Value) (w0 : IsGrammar W v0) (v1 : Value) (w1 : IsTable W v1) (v2 : Value) (w2 : IsInts W v2) :
    Calls Tryd.prog 5 #[v0, v1, v2] W fun e W' => e = .returned (.bool true) ∧ Below W.heap.size W W' := by
  obtain ⟨G, Ap, Al, As, np, cp, nl, cl, ns, cs, rfl, hG⟩ := w0
  obtain ⟨T, Aa, na, ca, Ag, ng, cg, Ac, nc, cc, rfl, hT⟩ := w1
  obtain ⟨A2, n2, c2, l, rfl, hl, _, _, hI, _⟩ := w2
  exact any_law G Ap Al As np cp nl cl ns cs T Aa na ca Ag ng cg Ac nc cc A2 n2 c2 l hl W W.heap.size (Nat.le_refl _) hG hT hI E hE
end Go.Proofs.YtinejiodnnjpgaaDoor
