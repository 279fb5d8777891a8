/- The machine's start; the program's Parse. · The program's Parse. -/
import Derived.Test.YtinejiodnnjpgaaDoorQ21
import Derived.Test.YtinejiodnnjpgaaDoorQ18
namespace Go.Proofs.YtinejiodnnjpgaaDoor
open Go.RowKit BigFrame
set_option linter.unusedVariables false
set_option linter.unusedSimpArgs false
set_option maxRecDepth 100000

/-- A grammar and a table, boxed at g and g + 1. -/
structure GTb (w : World) (B g : Nat) (G : Gr) (Ap Al As : Option Addr) (np cp nl cl ns cs : Nat) (T : Tb) (Aa : Option Addr) (na ca : Nat) (Ag : Option Addr) (ng cg : Nat) (vc : Value) : Prop where
  gb : GrBox w g G Ap Al As np cp nl cl ns cs
  tb : Blk w (g + 1) 47 [.slice Aa na ca, .slice Ag ng cg, vc]
  hG : GrIn w B G Ap Al As np cp nl cl ns cs
  hT : TbIn w B T Aa na ca Ag ng cg
theorem GTb.below {w w' : World} {B g : Nat} {G : Gr} {Ap Al As : Option Addr} {np cp nl cl ns cs : Nat} {T : Tb} {Aa : Option Addr} {na ca : Nat} {Ag : Option Addr} {ng cg : Nat} {vc : Value}
    (h : GTb w B g G Ap Al As np cp nl cl ns cs T Aa na ca Ag ng cg vc) (hb : Below (g + 2) w w') (hB : B ≤ g) : GTb w' B g G Ap Al As np cp nl cl ns cs T Aa na ca Ag ng cg vc :=
  ⟨h.gb.below hb (by omega), h.tb.below hb (by omega), h.hG.below (hb.mono (by omega)), h.hT.below (hb.mono (by omega))⟩
theorem GTb.mk_ (w : World) {B : Nat} (hB : B ≤ w.heap.size) (G : Gr) (Ap Al As : Option Addr) (np cp nl cl ns cs : Nat) (T : Tb) (Aa : Option Addr) (na ca : Nat) (Ag : Option Addr) (ng cg : Nat) (vc : Value) (hG : GrIn w B G Ap Al As np cp nl cl ns cs) (hT : TbIn w B T Aa na ca Ag ng cg) :
    ∃ w0, w0 = (w.alloc (.cells #[.int .i64 G.terms, .int .i64 G.names, .int .i64 G.start, .slice Ap np cp, .slice Al nl cl, .slice As ns cs] 34)).alloc (.cells #[.slice Aa na ca, .slice Ag ng cg, vc] 47) ∧ Below w.heap.size w w0 ∧ w0.heap.size = w.heap.size + 2 ∧ GTb w0 B w.heap.size G Ap Al As np cp nl cl ns cs T Aa na ca Ag ng cg vc := by
  obtain ⟨hb0, hs0, gb, hb⟩ := gtbox w G Ap Al As np cp nl cl ns cs (.slice Aa na ca) (.slice Ag ng cg) vc
  exact ⟨_, rfl, hb0, hs0, ⟨gb, hb, hG.below (hb0.mono hB), hT.below (hb0.mono hB)⟩⟩

set_option maxHeartbeats 2000000 in
theorem start_any (G : Gr) (Ap Al As : Option Addr) (np cp nl cl ns cs : Nat) (Aa : Option Addr) (na ca : Nat) (Ag : Option Addr) (ng cg : Nat) (Ac : Option Addr) (nc cc : Nat) (w : World) :
    Calls Tryd.prog 35 #[.agg #[.int .i64 G.terms, .int .i64 G.names, .int .i64 G.start, .slice Ap np cp, .slice Al nl cl, .slice As ns cs], .agg #[.slice Aa na ca, .slice Ag ng cg, .slice Ac nc cc]] w fun e w' => ∃ m, e = .returned (.pointer (some ⟨m, 0, none⟩)) ∧ Mach w' w.heap.size m (hdM G Ap Al As np cp nl cl ns cs (.slice Aa na ca) (.slice Ag ng cg) (.slice Ac nc cc)) ([0], []) ∧ Below w.heap.size w w' := by
  obtain ⟨hb0, hs0, gb, hb⟩ := gtbox w G Ap Al As np cp nl cl ns cs (.slice Aa na ca) (.slice Ag ng cg) (.slice Ac nc cc)
  obtain ⟨w0, hw0⟩ : ∃ w0, w0 = (w.alloc (.cells #[.int .i64 G.terms, .int .i64 G.names, .int .i64 G.start, .slice Ap np cp, .slice Al nl cl, .slice As ns cs] 34)).alloc (.cells #[.slice Aa na ca, .slice Ag ng cg, .slice Ac nc cc] 47) := ⟨_, rfl⟩
  rw [← hw0] at hb0 hs0 gb hb
  obtain ⟨L, hL⟩ : ∃ L : List Value, L = hdM G Ap Al As np cp nl cl ns cs (.slice Aa na ca) (.slice Ag ng cg) (.slice Ac nc cc) ++ [Value.slice (some ⟨w.heap.size + 1 + 1, 0, none⟩) 1 1, Value.slice none 0 0] := ⟨_, rfl⟩
  obtain ⟨w1, hw1⟩ : ∃ w1, w1 = (w0.alloc (.cells #[.int .i64 0] 3)).alloc (.cells (L ++ [Value.nilFunc, Value.nilFunc, Value.nilFunc, Value.nilFunc]).toArray 93) := ⟨_, rfl⟩
  have hs1 : w1.heap.size = w.heap.size + 4 := by rw [hw1]; simp [hs0]
  have hk1 : Blk w1 (w.heap.size + 1 + 1 + 1) 93 (L ++ [Value.nilFunc, Value.nilFunc, Value.nilFunc, Value.nilFunc]) := by
    have := Blk.new (w0.alloc (.cells #[.int .i64 0] 3)) 93 (L ++ [Value.nilFunc, Value.nilFunc, Value.nilFunc, Value.nilFunc])
    rw [hw1]
    simpa [hs0] using this
  have hr1 : w1.heap[w.heap.size + 1 + 1]? = some (.cells #[.int .i64 0] 3 (0, 0)) := by
    have h1 : (w0.alloc (.cells #[.int .i64 0] 3)).heap[w0.heap.size]? = some (.cells #[.int .i64 0] 3 (0, 0)) := heap_alloc_new w0 _
    rw [hs0] at h1
    rw [hw1, Below.heap_alloc _ _ _ (by simp [hs0])]
    exact h1
  have hb1 : Below w0.heap.size w0 w1 := by rw [hw1]; exact ((Below.refl _ _).alloc (Nat.le_refl _) _).alloc (by simp) _
  have hC := set_any (w.heap.size + 1 + 1 + 1) w1 L _ _ _ _ (by rw [hL]; rfl) hk1
  have hw2 : w1 = (w0.alloc (.cells #[.int .i64 0] 3)).alloc (.cells (hdM G Ap Al As np cp nl cl ns cs (.slice Aa na ca) (.slice Ag ng cg) (.slice Ac nc cc) ++ [Value.slice (some ⟨w.heap.size + 1 + 1, 0, none⟩) 1 1, Value.slice none 0 0] ++ [Value.nilFunc, Value.nilFunc, Value.nilFunc, Value.nilFunc]).toArray 93) := by rw [hw1, hL]
  obtain ⟨c0, c1, c2, c3, c4, c5⟩ := gb
  have t0 := hb.cell (i := 0) rfl
  have t1 := hb.cell (i := 1) rfl
  have t2 := hb.cell (i := 2) rfl
  have HC := Lib.hid hC; have HB0 := Lib.hid hb0; have HB1 := Lib.hid hb1; have HR1 := Lib.hid hr1; have HS1 := Lib.hid hs1; have HW := Lib.hid hw2; have HL := Lib.hid hL; have HS0 := Lib.hid hs0
  clear hC hb0 hb1 hr1 hk1 hb hw1 hw2 hL hs1
  go_enter Tryd.func35, Tryd.ntmps35
  go_wp2_with fail
  rw [← hw0, show ((w0.alloc (.cells #[.int .i64 0] 3)).alloc (.cells #[.int .i64 G.terms, .int .i64 G.names, .int .i64 G.start, .slice Ap np cp, .slice Al nl cl, .slice As ns cs, .slice Aa na ca, .slice Ag ng cg, .slice Ac nc cc, .slice (some ⟨w.heap.size + 1 + 1, 0, none⟩) 1 1, .slice none 0 0, .nilFunc, .nilFunc, .nilFunc, .nilFunc] 93)) = w1 from HW.out.symm]
  refine HC.out.mono ?_
  rintro e w2 ⟨rfl, hm, hkp⟩
  have HM := Lib.hid hm; have HK := Lib.hid hkp
  clear hm hkp
  go_wp2_with fail
  go_ret
  have hz := HK.out.size
  refine ⟨_, rfl, ⟨.slice (some ⟨w.heap.size + 1 + 1, 0, none⟩) 1 1, .slice none 0 0, [], fun _ => False, ⟨?_, rfl, by omega, ⟨rfl, .inr ⟨w.heap.size + 1 + 1, 1, #[.int .i64 0], rfl, by omega, ?_, Nat.le_refl 1, by unfold maxLen; omega, rfl, rfl⟩⟩, World.ownsRow_nil _ _ _ _, fun i t ht => by simp at ht, fun b q => q.elim, fun b q => q.elim⟩⟩, HB0.out.trans ((HB1.out.mono (by have := HS0.out; omega)).trans (HK.out.bel (by have := HS1.out; omega) (fun k hk e => by omega)))⟩
  · have := HM.out
    rw [HL.out] at this
    exact this
  · rw [HK.out.block _ (by have := HS1.out; omega) (by omega)]
    exact HR1.out
end Go.Proofs.YtinejiodnnjpgaaDoor
namespace Go.Proofs.YtinejiodnnjpgaaDoor
open Go.RowKit BigFrame
set_option linter.unusedVariables false
set_option linter.unusedSimpArgs false
set_option maxRecDepth 100000

theorem drop_at {l : List Int} {k : Nat} {x : Int} (h : l[k]? = some x) : l.drop k = x :: l.drop (k + 1) := by
  obtain ⟨hk, e⟩ := List.getElem?_eq_some_iff.1 h
  rw [List.drop_eq_getElem_cons hk, e]
theorem read_err {G : Gr} {T : Tb} {l : List Int} {k c : Nat} {x : Int} {s : St} (h : l[k]? = some x) (ht : takeP G T x k s = .error c) : readP G T (l.drop k) k s = .error (c, k) := by rw [drop_at h]; unfold readP; rw [ht]
theorem read_yes {G : Gr} {T : Tb} {l : List Int} {k : Nat} {x : Int} {s s' : St} (h : l[k]? = some x) (ht : takeP G T x k s = .ok s') : readP G T (l.drop k) k s = readP G T (l.drop (k + 1)) (k + 1) s' := by
  rw [drop_at h]
  conv => lhs; unfold readP
  rw [ht]
theorem read_end {G : Gr} {T : Tb} {l : List Int} {k : Nat} {s : St} (h : l.length ≤ k) : readP G T (l.drop k) k s = .ok s := by rw [List.drop_eq_nil_of_le h]; unfold readP; rfl
theorem parse_bad {G : Gr} {T : Tb} {l : List Int} {c : Nat × Nat} (h : readP G T l 0 ([0], []) = .error c) : parseP G T l = .error c := by unfold parseP; rw [h]
theorem parse_end {G : Gr} {T : Tb} {l : List Int} {s : St} {c : Nat} (h : readP G T l 0 ([0], []) = .ok s) (h2 : settleP G T G.terms 10000 s = .error c) : parseP G T l = .error (c, l.length) := by unfold parseP; rw [h]; simp only [h2]
theorem parse_yes {G : Gr} {T : Tb} {l : List Int} {s s' : St} {to : Int} (h : readP G T l 0 ([0], []) = .ok s) (h2 : settleP G T G.terms 10000 s = .ok (s', to)) : parseP G T l = .ok (s'.2.headD .nil) := by unfold parseP; rw [h]; simp only [h2]

/-- What Parse answers. -/
def ParEnd (w : World) (E : Nat → Addr) (r : Except (Nat × Nat) Tr) (e : Ending) (w' : World) : Prop :=
  (match r with
    | .error (c, i) => ∃ pb, e = .returned (.tuple #[.pointer none, .iface 27 (.pointer (some ⟨pb, 0, none⟩))]) ∧ pb < w'.heap.size ∧ w'.cell? ⟨pb, 0, none⟩ = some (ew (E c)) ∧ w'.cell? ⟨pb, 1, none⟩ = some (.int .i64 (i : Int))
    | .ok t => ∃ v, e = .returned (.tuple #[v, .nilIface]) ∧ TrB w' w'.heap.size v t) ∧ Below w.heap.size w w'
theorem fault_end {w w0 w1 : World} {E : Nat → Addr} {c i k : Nat} (hk : k = w1.heap.size) (hb : Below w.heap.size w w1) (hw : w0 = w1.alloc (.cells #[ew (E c), .int .i64 (i : Int)] 29)) :
    ParEnd w E (.error (c, i)) (.returned (.tuple #[.pointer none, .iface 27 (.pointer (some ⟨k, 0, none⟩))])) w0 := by
  subst hk
  have hk : Blk w0 w1.heap.size 29 [ew (E c), .int .i64 (i : Int)] := by rw [hw]; exact Blk.new w1 29 [ew (E c), .int .i64 (i : Int)]
  exact ⟨⟨_, rfl, hk.lt, hk.cell rfl, hk.cell rfl⟩, by rw [hw]; exact hb.alloc hb.size _⟩

set_option maxHeartbeats 2000000 in
theorem parse_any (G : Gr) (Ap Al As : Option Addr) (np cp nl cl ns cs : Nat) (T : Tb) (Aa : Option Addr) (na ca : Nat) (Ag : Option Addr) (ng cg : Nat) (Ac : Option Addr) (nc cc : Nat) (A2 : Option Addr) (n2 c2 : Nat) (l : List Int) (hl : l.length = n2) (w : World) (B : Nat) (hB : B ≤ w.heap.size) (hG : GrIn w B G Ap Al As np cp nl cl ns cs) (hT : TbIn w B T Aa na ca Ag ng cg) (hI : RdI w B A2 l) (h12 : n2 ≤ 12) (hf : TFits G T) (E : Nat → Addr) (hE : ErW w B E) :
    Calls Tryd.prog 18 #[.agg #[.int .i64 G.terms, .int .i64 G.names, .int .i64 G.start, .slice Ap np cp, .slice Al nl cl, .slice As ns cs], .agg #[.slice Aa na ca, .slice Ag ng cg, .slice Ac nc cc], .slice A2 n2 c2] w (ParEnd w E (parseP G T l)) := by
  obtain ⟨w0, hw0, hb0, hs0, hGT⟩ := GTb.mk_ w hB G Ap Al As np cp nl cl ns cs T Aa na ca Ag ng cg (.slice Ac nc cc) hG hT
  have hC1 := pfits_any G Ap Al As np cp nl cl ns cs T Aa na ca Ag ng cg (.slice Ac nc cc) w0 B (by omega) hGT.hG hGT.hT
  rw [fitB_t hf] at hC1
  obtain ⟨⟨c0, c1, c2', c3, c4, c5⟩, tb, -, -⟩ := id hGT
  have t0 := tb.cell (i := 0) rfl
  have t1 := tb.cell (i := 1) rfl
  have t2 := tb.cell (i := 2) rfl
  have hI0 := hI.below (hb0.mono hB)
  have hE0 := hE.below (hb0.mono hB)
  have HC1 := Lib.hid hC1; have HB0 := Lib.hid hb0; have HS0 := Lib.hid hs0; have HGT := Lib.hid hGT; have HI := Lib.hid hI0; have HE := Lib.hid hE0; have HL := Lib.hid hl; have HF := Lib.hid hf
  clear hC1 hb0 hGT hI hI0 hE hE0 hG hT tb hl hf
  go_enter Tryd.func18, Tryd.ntmps18
  go_wp2_with fail
  rw [← hw0]
  clear hw0
  refine HC1.out.mono ?_
  rintro e w1 ⟨rfl, hb1⟩
  have hz1 := hb1.size
  have hGT1 := HGT.out.below (hb1.mono (by omega)) hB
  obtain ⟨⟨c0, c1, c2', c3, c4, c5⟩, tb, -, -⟩ := id hGT1
  have t0 := tb.cell (i := 0) rfl
  have t1 := tb.cell (i := 1) rfl
  have t2 := tb.cell (i := 2) rfl
  have HB1 := Lib.hid (HB0.out.trans (hb1.mono (by omega)))
  have HC2 := Lib.hid (start_any G Ap Al As np cp nl cl ns cs Aa na ca Ag ng cg Ac nc cc w1)
  have HI1 := Lib.hid (HI.out.below (hb1.mono (by omega))); have HE1 := Lib.hid (HE.out.below (hb1.mono (by omega))); have HGT1 := Lib.hid hGT1
  clear hb1 hGT1 tb HGT HI HE HC1 HB0
  go_wp2_with fail
  refine HC2.out.mono ?_
  rintro e w2 ⟨m, rfl, hM2, hb2⟩
  obtain ⟨base, hbase⟩ : ∃ base, base = w1.heap.size := ⟨_, rfl⟩
  rw [← hbase] at hM2
  have hBb : B ≤ base := by omega
  have hb12 : Below base w1 w2 := by rw [hbase]; exact hb2
  obtain ⟨R, hR⟩ : ∃ R, R = readP G T l 0 ([0], []) := ⟨_, rfl⟩
  have hz2 := hb2.size
  have HM2 := Lib.hid hM2; have HR := Lib.hid hR
  have HB2 := Lib.hid (HB1.out.trans (hb12.mono (by omega)))
  have HGT2 := Lib.hid (HGT1.out.below (hb12.mono (by omega)) hB)
  have HI2 := Lib.hid (HI1.out.below (hb12.mono hBb)); have HE2 := Lib.hid (HE1.out.below (hb12.mono hBb))
  clear hM2 hb2 hb12 hR HB1 HGT1 HI1 HE1 c0 c1 c2' c3 c4 c5 t0 t1 t2
  go_wp2_with fail
  go_loopw [24] (fun i wr => ∃ (k : Nat) (s : St), k ≤ n2 ∧ i = .int .i64 (k : Int) ∧ Hid (readP G T (l.drop k) k s = R) ∧ Hid (StOk G T s) ∧ Hid (Mach wr base m (hdM G Ap Al As np cp nl cl ns cs (.slice Aa na ca) (.slice Ag ng cg) (.slice Ac nc cc)) s) ∧ Hid (s.2.length ≤ 10001 * k) ∧ Hid (Fm base w2 wr)) (fun i _ => n2 - (intOf i).toNat)
  case atStart => exact ⟨0, _, by omega, rfl, HR.out.symm, st0 HF.out, HM2.out, Nat.le_refl _, Fm.refl _ _⟩
  case round =>
    as_aux_lemma =>
      obtain ⟨k, s, hk, rfl, HRk, HSk, HMk, HLk, HFk⟩ := hrel
      have hzr := HFk.out.bel.size
      have hb2r : Below base w2 wr := HFk.out.bel
      have HBr := Lib.hid (HB2.out.trans (hb2r.mono (by omega)))
      have hGTr := HGT2.out.below (hb2r.mono (by omega)) hB
      obtain ⟨⟨c0, c1, c2', c3, c4, c5⟩, tb, hGr, hTr⟩ := id hGTr
      have hEr := HE2.out.below (hb2r.mono hBb)
      have HEr := Lib.hid hEr
      by_cases hlt : k < n2
      · as_aux_lemma =>
          obtain ⟨b, off, rfl, hbB, hcell⟩ := (HI2.out.below (hb2r.mono hBb)).at_ (by have := HL.out; omega)
          have hx := hcell k (by have := HL.out; omega)
          have hxl : l[k]? = some (nth l k) := nth_some (by have := HL.out; omega)
          obtain ⟨x, hxe⟩ : ∃ x, x = nth l k := ⟨_, rfl⟩
          rw [← hxe] at hx hxl
          have HXL := Lib.hid hxl
          have HC := Lib.hid (take_any G Ap Al As np cp nl cl ns cs T Aa na ca Ag ng cg (.slice Ac nc cc) wr B base m s HMk.out (by omega) hBb hGr hTr HF.out HSk.out (by have := HLk.out; omega) E hEr x k)
          clear hcell hxl hxe hGr hTr hEr hGTr tb c0 c1 c2' c3 c4 c5
          cases hto : takeP G T x k s with
          | error c =>
            as_aux_lemma =>
              have HR2 : Hid (R = .error (c, k)) := Lib.hid (by rw [← HRk.out]; exact read_err HXL.out hto)
              have HPP : Hid (parseP G T l = .error (c, k)) := Lib.hid (parse_bad (HR.out.symm.trans HR2.out))
              rw [hto] at HC
              clear hto
              go_wp2_with fail
              refine HC.out.mono ?_
              rintro e w4 ⟨rfl, hF4⟩
              have HB4 := Lib.hid (HBr.out.trans (hF4.bel.mono (by omega)))
              clear hF4
              go_wp2_with fail
              go_ret2
              rw [HPP.out]
              exact fault_end rfl HB4.out rfl
          | ok s' =>
            as_aux_lemma =>
              have HRk' : Hid (readP G T (l.drop (k + 1)) (k + 1) s' = R) := Lib.hid ((read_yes HXL.out hto).symm.trans HRk.out)
              obtain ⟨hsk, hlk⟩ := take_ok HF.out HSk.out hto
              have HSk' := Lib.hid hsk
              have HLk' : Hid (s'.2.length ≤ 10001 * (k + 1)) := Lib.hid (by have := HLk.out; omega)
              rw [hto] at HC
              clear hto hsk hlk
              go_wp2_with fail
              refine HC.out.mono ?_
              rintro e w4 ⟨⟨rfl, hM4⟩, hF4⟩
              have HM4 := Lib.hid hM4; have HF4 := Lib.hid (HFk.out.trans hF4)
              clear hM4 hF4
              go_wp2_with fail
              go_roundw
              case rel => exact ⟨k + 1, s', by omega, by go_num, HRk', HSk', HM4, HLk', HF4⟩
              case measure => simp [intOf]; omega
      · as_aux_lemma =>
          have hke : k = n2 := by omega
          subst hke
          have HRS : Hid (readP G T l 0 ([0], []) = .ok s) := Lib.hid (by rw [← HR.out, ← HRk.out]; exact read_end (by have := HL.out; omega))
          have HC := Lib.hid (settle_any G Ap Al As np cp nl cl ns cs T Aa na ca Ag ng cg (.slice Ac nc cc) wr B base m s HMk.out (by omega) hBb hGr hTr HF.out HSk.out (by have := HLk.out; omega) E hEr G.terms HF.out.ok.t0 (Int.le_refl _))
          clear hGr hTr hEr hGTr tb c1 c2' c3 c4 c5
          cases hto : settleP G T G.terms 10000 s with
          | error c =>
            as_aux_lemma =>
              have HPP : Hid (parseP G T l = .error (c, k)) := Lib.hid (by rw [← HL.out]; exact parse_end HRS.out hto)
              rw [hto] at HC
              clear hto
              go_wp2_with fail
              refine HC.out.mono ?_
              rintro e w4 ⟨⟨a, b, rfl⟩, hF4⟩
              have HB4 := Lib.hid (HBr.out.trans (hF4.bel.mono (by omega)))
              clear hF4
              go_wp2_with fail
              go_ret2
              rw [HPP.out]
              exact fault_end (w1 := w4.alloc _) (by simp) (HB4.out.alloc HB4.out.size _) rfl
          | ok q =>
            obtain ⟨s', to⟩ := q
            as_aux_lemma =>
              have HPP : Hid (parseP G T l = .ok (s'.2.headD .nil)) := Lib.hid (parse_yes HRS.out hto)
              have hacc := settle_end HF.out 10000 s s' to HSk.out hto
              have hs' := (settle_ok HF.out HF.out.ok.t0 (Int.le_refl _) 10000 s s' to HSk.out hto).1
              have HACC := Lib.hid hacc.1; have HS' := Lib.hid hs'
              rw [hto] at HC
              clear hto hacc hs'
              go_wp2_with fail
              refine HC.out.mono ?_
              rintro e w4 ⟨⟨a, rfl, hM4⟩, hF4⟩
              have hb4 := HBr.out.trans (hF4.bel.mono (by omega))
              obtain ⟨w5, hw5⟩ : ∃ w5, w5 = w4.alloc (.cells #[.int .i64 a, .int .i64 to] 82) := ⟨_, rfl⟩
              have hb5 : Below w4.heap.size w4 w5 := by rw [hw5]; exact (Below.refl _ _).alloc (Nat.le_refl _) _
              obtain ⟨sv, tv, vs, U, hM5⟩ := hM4.ext hb5
              obtain ⟨ss', ts'⟩ := s'
              obtain ⟨tb, ct, nb, p, tok, ks, rfl, hp, rfl, g1, g2, g3, y1, g4, y2⟩ := one_tree hM5.t hM5.tr (fun b q => (hM5.u b q).1) HS'.out HACC.out
              have z10 := hM5.c10
              unfold maxLen at g2
              have HTR : Hid (TrB w5 w5.heap.size (.pointer (some ⟨nb, 0, none⟩)) (.node p tok ks)) := Lib.hid (by
                obtain ⟨u, h1, h2⟩ := hM5.tr 0 _ rfl
                obtain ⟨_, _, e1, _, _, _, _, hc1⟩ := own_at hM5.t (by simp)
                cases e1
                have := hc1 0 _ h1
                rw [y1] at this
                cases this
                exact TrIn.keep (fun _ _ => rfl) (fun b q => (hM5.u b q).1) h2)
              have HB5 := Lib.hid (hb4.trans (hb5.mono hb4.size))
              clear hM4 hM5 hF4 hb4 hb5 hp HS' HACC
              subst hw5
              go_wp2_with fail
              go_ret2
              rw [HPP.out]
              exact ⟨⟨_, rfl, HTR.out⟩, HB5.out⟩
theorem parse_no (G : Gr) (Ap Al As : Option Addr) (np cp nl cl ns cs : Nat) (T : Tb) (Aa : Option Addr) (na ca : Nat) (Ag : Option Addr) (ng cg : Nat) (Ac : Option Addr) (nc cc : Nat) (A2 : Option Addr) (n2 c2 : Nat) (w : World) (B : Nat) (hB : B ≤ w.heap.size) (hG : GrIn w B G Ap Al As np cp nl cl ns cs) (hT : TbIn w B T Aa na ca Ag ng cg) (hf : ¬ TFits G T) (E : Nat → Addr) (hE : ErW w B E) :
    Calls Tryd.prog 18 #[.agg #[.int .i64 G.terms, .int .i64 G.names, .int .i64 G.start, .slice Ap np cp, .slice Al nl cl, .slice As ns cs], .agg #[.slice Aa na ca, .slice Ag ng cg, .slice Ac nc cc], .slice A2 n2 c2] w fun e w' => e = .returned (.tuple #[.pointer none, ew (E 0)]) ∧ Below w.heap.size w w' := by
  obtain ⟨w0, hw0, hb0, hs0, hGT⟩ := GTb.mk_ w hB G Ap Al As np cp nl cl ns cs T Aa na ca Ag ng cg (.slice Ac nc cc) hG hT
  have hC1 := pfits_any G Ap Al As np cp nl cl ns cs T Aa na ca Ag ng cg (.slice Ac nc cc) w0 B (by omega) hGT.hG hGT.hT
  rw [fitB_f hf] at hC1
  obtain ⟨⟨c0, c1, c2', c3, c4, c5⟩, tb, -, -⟩ := id hGT
  have t0 := tb.cell (i := 0) rfl
  have t1 := tb.cell (i := 1) rfl
  have t2 := tb.cell (i := 2) rfl
  have HC1 := Lib.hid hC1; have HB0 := Lib.hid hb0; have HS0 := Lib.hid hs0; have HE := Lib.hid (hE.below (hb0.mono hB))
  clear hC1 hb0 hGT hE hG hT tb hf
  go_enter Tryd.func18, Tryd.ntmps18
  go_wp2_with fail
  rw [← hw0]
  clear hw0
  refine HC1.out.mono ?_
  rintro e w1 ⟨rfl, hb1⟩
  have zE := (HE.out.below (hb1.mono (by omega))).g 0 (by omega)
  unfold evar at zE
  have HB1 := Lib.hid (HB0.out.trans (hb1.mono (by omega)))
  clear hb1 HE c0 c1 c2' c3 c4 c5 t0 t1 t2
  go_wp2_with fail
  go_quiet (fail)
  go_wp2_with fail
  go_ret2
  exact ⟨rfl, HB1.out.trans (bel_dn _ _ _)⟩
end Go.Proofs.YtinejiodnnjpgaaDoor
