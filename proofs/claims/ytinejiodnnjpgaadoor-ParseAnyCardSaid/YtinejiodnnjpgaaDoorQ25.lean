/- The document's Next. · The program's Next. -/
import Derived.Test.YtinejiodnnjpgaaDoorQ24
namespace Go.Proofs.YtinejiodnnjpgaaDoor
open Go.RowKit BigFrame
set_option linter.unusedVariables false
set_option linter.unusedSimpArgs false
set_option maxRecDepth 100000

/-- What Next answers. -/
def NxEnd (w : World) (L : List Int) (e : Ending) (w' : World) : Prop := ∃ A c, e = .returned (.slice A L.length c) ∧ RdI w' w'.heap.size A L ∧ Below w.heap.size w w'

set_option maxHeartbeats 4000000 in
theorem rnext_any (G : Gr) (Ap Al As : Option Addr) (np cp nl cl ns cs : Nat) (T : Tb) (Aa : Option Addr) (na ca : Nat) (Ag : Option Addr) (ng cg : Nat) (tc : Value) (A2 : Option Addr) (n2 c2 : Nat) (l : List Int) (hl : l.length = n2) (w : World) (B : Nat) (hB : B ≤ w.heap.size) (hG : GrIn w B G Ap Al As np cp nl cl ns cs) (hT : TbIn w B T Aa na ca Ag ng cg) (hI : RdI w B A2 l) (h12 : n2 ≤ 12) (hf : TFits G T) (E : Nat → Addr) (hE : ErW w B E) :
    Calls Tryd.prog 24 #[.agg #[.int .i64 G.terms, .int .i64 G.names, .int .i64 G.start, .slice Ap np cp, .slice Al nl cl, .slice As ns cs], .agg #[.slice Aa na ca, .slice Ag ng cg, tc], .slice A2 n2 c2] w (NxEnd w (nextP G T l)) := by
  obtain ⟨t, ht⟩ := Int.eq_ofNat_of_zero_le hf.ok.t0
  have ht300 := hf.ok.t1
  have ht3 : t ≤ 300 := by omega
  obtain ⟨w0, hw0, hb0, hs0, hGT⟩ := GTb.mk_ w hB G Ap Al As np cp nl cl ns cs T Aa na ca Ag ng cg tc hG hT
  have hC1 := rread_any G Ap Al As np cp nl cl ns cs T Aa na ca Ag ng cg tc A2 n2 c2 l hl w0 B (by omega) hGT.hG hGT.hT (hI.below (hb0.mono hB)) h12 hf E (hE.below (hb0.mono hB))
  obtain ⟨⟨c0, c1, c2', c3, c4, c5⟩, tb, -, -⟩ := id hGT
  have t0 := tb.cell (i := 0) rfl
  have t1 := tb.cell (i := 1) rfl
  have t2 := tb.cell (i := 2) rfl
  have hE0 := hE.below (hb0.mono hB)
  have HB0 := Lib.hid hb0; have HS0 := Lib.hid hs0; have HGT := Lib.hid hGT; have HE := Lib.hid hE0; have HL := Lib.hid hl; have HF := Lib.hid hf
  have HC1 := Lib.hid hC1; have HT := Lib.hid ht
  clear hb0 hGT hI hE hE0 hG hT tb hl hf hC1 ht
  subst hw0
  go_enter Tryd.func24, Tryd.ntmps24
  go_wp2_with fail
  generalize (w.alloc (.cells #[.int .i64 G.terms, .int .i64 G.names, .int .i64 G.start, .slice Ap np cp, .slice Al nl cl, .slice As ns cs] 34)).alloc (.cells #[.slice Aa na ca, .slice Ag ng cg, tc] 47) = w0 at *
  clear c0 c1 c2' c3 c4 c5 t0 t1 t2
  cases hr : readP G T l 0 ([0], []) with
  | error q =>
    obtain ⟨c, i⟩ := q
    as_aux_lemma =>
      have HPP : Hid (nextP G T l = []) := Lib.hid (next_bad hr)
      rw [hr] at HC1
      clear hr
      refine HC1.out.mono ?_
      rintro e w1 ⟨⟨A, n, c1, A2', n2', c2'', rfl⟩, hb1⟩
      have hz1 := hb1.size
      obtain ⟨w2, hw2⟩ : ∃ w2, w2 = w1.alloc (.cells #[.slice A n c1, .slice A2' n2' c2''] 97) := ⟨_, rfl⟩
      have hb2 : Below w1.heap.size w1 w2 := by rw [hw2]; exact (Below.refl _ _).alloc (Nat.le_refl _) _
      have hgb := ((HGT.out.below (hb1.mono (by omega)) hB).below (hb2.mono (by omega)) hB).gb
      have z0 := hgb.c0
      have HB2 : Hid (Below w.heap.size w w2) := Lib.hid (HB0.out.trans ((hb1.mono (by omega)).trans (hb2.mono (by omega))))
      clear hb1 hb2 hgb
      go_wp2_with fail
      rw [← hw2]
      clear hw2
      go_loopw [7, 11] (fun v i wr => v = .slice none 0 0 ∧ i = .int .i64 0 ∧ Hid (wr = w2)) (fun _ _ _ => 0)
      case atStart => exact ⟨rfl, rfl, rfl⟩
      case round =>
        as_aux_lemma =>
          obtain ⟨rfl, rfl, HW⟩ := hrel
          have hwr := HW.out
          subst hwr
          by_cases h0 : (0 : Int) ≤ G.terms
          · as_aux_lemma =>
              go_wp2_with fail
              go_ret
              rw [HPP.out]
              exact ⟨none, 0, rfl, Rd.nil _ _ _, HB2.out⟩
          · as_aux_lemma =>
              go_wp2_with fail
              go_ret
              rw [HPP.out]
              exact ⟨none, 0, rfl, Rd.nil _ _ _, HB2.out⟩
  | ok s =>
    as_aux_lemma =>
      obtain ⟨hs1, hs2⟩ := read_all HF.out l 0 _ _ (st0 HF.out) hr
      have HPP : Hid (nextP G T l = nx G T s (t + 1)) := Lib.hid (next_yes hr HT.out)
      have HS1 := Lib.hid hs1
      have HLEN : Hid (s.2.length ≤ 90000000) := Lib.hid (by have := HL.out; simp only [List.length_nil] at hs2; omega)
      rw [hr] at HC1
      clear hr hs1 hs2
      refine HC1.out.mono ?_
      rintro e w1 ⟨⟨A, n, c1, A2', n2', c2'', rfl, hst⟩, hb1⟩
      have hz1 := hb1.size
      obtain ⟨w2, hw2⟩ : ∃ w2, w2 = w1.alloc (.cells #[.slice A n c1, .slice A2' n2' c2''] 97) := ⟨_, rfl⟩
      have hb2 : Below w1.heap.size w1 w2 := by rw [hw2]; exact (Below.refl _ _).alloc (Nat.le_refl _) _
      have hk2 : Blk w2 w1.heap.size 97 [.slice A n c1, .slice A2' n2' c2''] := by rw [hw2]; exact Blk.new w1 97 [.slice A n c1, .slice A2' n2' c2'']
      have hz2 := hk2.lt
      have hb02 : Below w0.heap.size w0 w2 := hb1.trans (hb2.mono hz1)
      have HGT2 := Lib.hid (HGT.out.below (hb02.mono (by omega)) hB)
      have HE2 := Lib.hid (HE.out.below (hb02.mono (by omega)))
      have HST2 := Lib.hid (hst.ext hb2)
      have HK2 := Lib.hid hk2
      have HB2 : Hid (Below w.heap.size w w2) := Lib.hid (HB0.out.trans (hb02.mono (by omega)))
      have hgle : w.heap.size + 2 ≤ w2.heap.size := by have := hb02.size; omega
      clear hst hb1 hb2 hk2 hb02
      go_wp2_with fail
      rw [← hw2]
      clear hw2
      go_loopw [7, 11] (fun v i wr => ∃ k : Nat, k ≤ t + 1 ∧ i = .int .i64 (k : Int) ∧ Hid (wr.ownsRow w2.heap.size 3 1 v (nx G T s k).length (iv (nx G T s k))) ∧ Hid (Below w2.heap.size w2 wr)) (fun _ i _ => t + 1 - (intOf i).toNat)
      case atStart => exact ⟨0, by omega, rfl, World.ownsRow_nil _ _ _ _, Below.refl _ _⟩
      case round =>
        as_aux_lemma =>
          obtain ⟨k, hk, rfl, HO, HBk⟩ := hrel
          have hszr := HBk.out.size
          obtain ⟨Av, cv, rfl, hv1, hv2, hv3⟩ := own_form HO.out
          have HV3 := Lib.hid hv3
          have hGTr := HGT2.out.below (HBk.out.mono hgle) hB
          have HGTr := Lib.hid hGTr
          obtain ⟨⟨c0, c1', c2', c3, c4, c5⟩, tb, -, -⟩ := id hGTr
          have t0 := tb.cell (i := 0) rfl
          have t1 := tb.cell (i := 1) rfl
          have t2 := tb.cell (i := 2) rfl
          have hbx := HK2.out.below HBk.out hz2
          have x0 := hbx.cell (i := 0) rfl
          have x1 := hbx.cell (i := 1) rfl
          have hnl := nx_len G T s k
          clear tb hGTr hbx hv3
          by_cases hlt : k < t + 1
          · as_aux_lemma =>
              have d1 : decide ((k : Int) ≤ G.terms) = true := by rw [HT.out]; simp; omega
              have HLT := Lib.hid hlt
              have HC := Lib.hid (rsettle_any G Ap Al As np cp nl cl ns cs T Aa na ca Ag ng cg tc wr B w0.heap.size (.slice A n c1) (.slice A2' n2' c2'') s (HST2.out.ext HBk.out) (by omega) (by omega) HGTr.out.hG HGTr.out.hT HF.out HS1.out HLEN.out E (HE2.out.below (HBk.out.mono (by omega))) (k : Int) (by omega) (by rw [HT.out]; omega))
              cases hto : settleP G T (k : Int) 10000 s with
              | error c =>
                as_aux_lemma =>
                  have HNX : Hid (nx G T s (k + 1) = nx G T s k) := Lib.hid (nx_no hto)
                  rw [hto] at HC
                  clear hto
                  go_wp2_with fail
                  refine HC.out.mono ?_
                  rintro e w4 ⟨⟨A5, n5, c5', A6, n6, c6, rfl⟩, hb4⟩
                  have hb5 : Below wr.heap.size wr (w4.alloc (.cells #[.slice A5 n5 c5', .slice A6 n6 c6] 97)) := hb4.alloc hb4.size _
                  have HO5 := Lib.hid (own_ext HO.out hb5)
                  have HB5 := Lib.hid (HBk.out.trans (hb5.mono (by omega)))
                  clear hb4 hb5
                  go_wp2_with fail
                  go_roundw
                  case rel => exact ⟨k + 1, by have := HLT.out; omega, by go_num, Lib.hid (by rw [HNX.out]; exact HO5.out), HB5⟩
                  case measure => have := HLT.out; simp [intOf]; omega
              | ok q =>
                obtain ⟨s', to⟩ := q
                as_aux_lemma =>
                  have HNX : Hid (nx G T s (k + 1) = nx G T s k ++ [(k : Int)]) := Lib.hid (nx_yes hto)
                  rw [hto] at HC
                  clear hto
                  go_wp2_with fail
                  refine HC.out.mono ?_
                  rintro e w4 ⟨⟨A5, n5, c5', A6, n6, c6, rfl, -⟩, hb4⟩
                  have hb5 : Below wr.heap.size wr (w4.alloc (.cells #[.slice A5 n5 c5', .slice A6 n6 c6] 97)) := hb4.alloc hb4.size _
                  have HO5 := Lib.hid (own_ext HO.out hb5)
                  have HB5 := Lib.hid (HBk.out.trans (hb5.mono (by omega)))
                  have HZ5 : Hid (w2.heap.size ≤ (w4.alloc (.cells #[.slice A5 n5 c5', .slice A6 n6 c6] 97)).heap.size) := Lib.hid HB5.out.size
                  clear hb4 hb5
                  go_wp2_with (at_builtin; refine wpList_app elIn rfl (.tmp 44) (.tmp 46) rfl w2.heap.size _ (nx G T s k).length 1 (iv (nx G T s k)) [.int .i64 (k : Int)] rfl HO5.out (by first | rfl | (simp; done) | (simp; rfl)) rfl (by simp [Value.oneCell']) ?_ ?_ HZ5.out ?_; omega; omega; intro v8 w8 hown8 hg8 hat8; obtain ⟨A8, cA8, rfl, -, -, -⟩ := own_form hown8; have HO8 := Lib.hid hown8; have HB8 := Lib.hid (HB5.out.grown hg8 HZ5.out (fun b e => (HO5.out.lt b e).1)); clear hown8 hg8 hat8)
                  go_roundw
                  case rel => exact ⟨k + 1, by have := HLT.out; omega, by go_num, Lib.hid (by rw [HNX.out, List.length_append, iv_app]; exact HO8.out), HB8⟩
                  case measure => have := HLT.out; simp [intOf]; omega
          · as_aux_lemma =>
              have d1 : decide ((k : Int) ≤ G.terms) = false := by rw [HT.out]; simp; omega
              have HKE : Hid (k = t + 1) := Lib.hid (by omega)
              go_wp2_with fail
              go_ret
              rw [HPP.out, ← HKE.out]
              exact ⟨Av, cv, rfl, HV3.out, HB2.out.trans (HBk.out.mono (by omega))⟩
end Go.Proofs.YtinejiodnnjpgaaDoor
namespace Go.Proofs.YtinejiodnnjpgaaDoor
open Go.RowKit BigFrame
set_option linter.unusedVariables false
set_option linter.unusedSimpArgs false
set_option maxRecDepth 100000

theorem built_mach {a b c : Int} {A1 A2 A3 A4 A5 A6 A7 A8 : Option Addr} {n1 c1 n2 c2 n3 c3 n4 c4 n5 c5 n6 c6 n7 c7 n8 c8 : Nat} :
    Tryd.prog.built 93 [(0, .agg #[.int .i64 a, .int .i64 b, .int .i64 c, .slice A1 n1 c1, .slice A2 n2 c2, .slice A3 n3 c3]), (1, .agg #[.slice A4 n4 c4, .slice A5 n5 c5, .slice A6 n6 c6]), (2, .slice A7 n7 c7), (3, .slice A8 n8 c8)] =
      some #[.int .i64 a, .int .i64 b, .int .i64 c, .slice A1 n1 c1, .slice A2 n2 c2, .slice A3 n3 c3, .slice A4 n4 c4, .slice A5 n5 c5, .slice A6 n6 c6, .slice A7 n7 c7, .slice A8 n8 c8, .nilFunc, .nilFunc, .nilFunc, .nilFunc] := by
  kernel_rfl
theorem wpList_built {P : Program} {ops : Array Oper} {rest : List Oper} {o : Oper} {a : Act} {w : World} {Q : Exit → Act → World → Prop} (hg : o.guard = none) (t : TypeId) (parts : Array (Nat × Operand)) (ho : o.op = .build t parts) (cells : Array Value)
    (hc : P.built t (parts.map fun (i, x) => (i, a.eval x)).toList = some cells) (h : wpList P ops Q rest (a.put o.dst (.agg cells)) w) : wpList P ops Q (o :: rest) a w :=
  wpList_build hg t parts ho (by rw [hc]; rfl) (by rw [hc]; exact h)
theorem own_addr {w : World} {base n c : Nat} {e : TypeId} {A : Option Addr} {xs : List Value} (h : w.ownsRow base e 1 (.slice A n c) n xs) : A = none ∨ ∃ b off, A = some ⟨b, off, none⟩ := by
  rcases h.2 with ⟨e1, _⟩ | ⟨g, cap, cur, e1, _⟩
  · injection e1 with a1 _ _
    exact .inl a1
  · injection e1 with a1 _ _
    exact .inr ⟨g, 0, a1⟩
theorem machV_one {w : World} {base m : Nat} {hd : List Value} {sv tv : Value} {ss : List Int} {ts : List Tr} {vs : List Value} {U : Nat → Prop} (h : MachV w base m hd sv tv ss ts vs U) : ∀ u ∈ vs, u.oneCell' = true := fun u hu => by
  obtain ⟨i, hi, e⟩ := List.getElem_of_mem hu
  obtain ⟨u', q1, q2⟩ := h.tr i (ts[i]'(by rw [← h.vl]; exact hi)) (List.getElem?_eq_getElem _)
  rw [List.getElem?_eq_getElem hi, e] at q1
  cases q1
  exact q2.one
/-- A machine whose rows are clones of another's. -/
theorem MachV.cloned {w w6 : World} {base m mc : Nat} {hd hd' : List Value} {sv tv sv' tv' : Value} {ss : List Int} {ts : List Tr} {vs : List Value} {U : Nat → Prop} (h : MachV w base m hd sv tv ss ts vs U) (hb : Below w.heap.size w w6)
    (hs : w6.ownsRow w.heap.size 3 1 sv' ss.length (iv ss)) (ht : w6.ownsRow w.heap.size 38 1 tv' ts.length vs) (hk : Blk w6 mc 93 (hd' ++ [sv', tv'] ++ does mc)) (hl : hd'.length = 9) (hmc : w.heap.size ≤ mc) : Mach w6 w.heap.size mc hd' (ss, ts) :=
  ⟨sv', tv', vs, U, hk, hl, hmc, hs, ht, fun i t e => by
    obtain ⟨u, h1, h2⟩ := h.tr i t e
    exact ⟨u, h1, TrIn.keep (fun b q => hb.block b (h.u b q).1) (fun _ q => q) h2⟩, fun b q => by
    have h1 := (h.u b q).1
    have h2 := hb.size
    refine ⟨by omega, by omega, fun e => ?_, fun e => ?_⟩
    · have := (hs.lt b e).1; omega
    · have := (ht.lt b e).1; omega, fun b q => (h.ut b q).same (hb.block b (h.u b q).1)⟩

set_option maxHeartbeats 4000000 in
theorem pnext_any (G : Gr) (Ap Al As : Option Addr) (np cp nl cl ns cs : Nat) (T : Tb) (Aa : Option Addr) (na ca : Nat) (Ag : Option Addr) (ng cg : Nat) (Ac : Option Addr) (nc cc : Nat) (A2 : Option Addr) (n2 c2 : Nat) (l : List Int) (hl : l.length = n2) (w : World) (B : Nat) (hB : B ≤ w.heap.size) (hG : GrIn w B G Ap Al As np cp nl cl ns cs) (hT : TbIn w B T Aa na ca Ag ng cg) (hI : RdI w B A2 l) (h12 : n2 ≤ 12) (hf : TFits G T) (E : Nat → Addr) (hE : ErW w B E) :
    Calls Tryd.prog 19 #[.agg #[.int .i64 G.terms, .int .i64 G.names, .int .i64 G.start, .slice Ap np cp, .slice Al nl cl, .slice As ns cs], .agg #[.slice Aa na ca, .slice Ag ng cg, .slice Ac nc cc], .slice A2 n2 c2] w (NxEnd w (nextP G T l)) := by
  obtain ⟨w0, hw0, hb0, hs0, hGT⟩ := GTb.mk_ w hB G Ap Al As np cp nl cl ns cs T Aa na ca Ag ng cg (.slice Ac nc cc) hG hT
  have hC1 := pfits_any G Ap Al As np cp nl cl ns cs T Aa na ca Ag ng cg (.slice Ac nc cc) w0 B (by omega) hGT.hG hGT.hT
  rw [fitB_t hf] at hC1
  obtain ⟨⟨c0, c1, c2', c3, c4, c5⟩, tb, -, -⟩ := id hGT
  have t0 := tb.cell (i := 0) rfl
  have t1 := tb.cell (i := 1) rfl
  have t2 := tb.cell (i := 2) rfl
  have hI0 := hI.below (hb0.mono hB)
  have hE0 := hE.below (hb0.mono hB)
  have HC1 := Lib.hid hC1; have HB0 := Lib.hid hb0; have HS0 := Lib.hid hs0; have HGT := Lib.hid hGT; have HI := Lib.hid hI0; have HE := Lib.hid hE0; have HL := Lib.hid hl; have HF := Lib.hid hf
  clear hC1 hb0 hGT hI hI0 hE hE0 hG hT tb hl hf
  go_enter Tryd.func19, Tryd.ntmps19
  go_wp2_with fail
  rw [← hw0]
  clear hw0
  refine HC1.out.mono ?_
  rintro e w1 ⟨rfl, hb1⟩
  have hz1 := hb1.size
  have hGT1 := HGT.out.below (hb1.mono (by omega)) hB
  obtain ⟨⟨c0, c1, c2', c3, c4, c5⟩, tb, -, -⟩ := id hGT1
  have t0 := tb.cell (i := 0) rfl
  have t1 := tb.cell (i := 1) rfl
  have t2 := tb.cell (i := 2) rfl
  have HB1 := Lib.hid (HB0.out.trans (hb1.mono (by omega)))
  have HC2 := Lib.hid (start_any G Ap Al As np cp nl cl ns cs Aa na ca Ag ng cg Ac nc cc w1)
  have HI1 := Lib.hid (HI.out.below (hb1.mono (by omega))); have HE1 := Lib.hid (HE.out.below (hb1.mono (by omega))); have HGT1 := Lib.hid hGT1
  clear hb1 hGT1 tb HGT HI HE HC1 HB0
  go_wp2_with fail
  refine HC2.out.mono ?_
  rintro e w2 ⟨m, rfl, hM2, hb2⟩
  obtain ⟨base, hbase⟩ : ∃ base, base = w1.heap.size := ⟨_, rfl⟩
  rw [← hbase] at hM2
  have hBb : B ≤ base := by omega
  have hb12 : Below base w1 w2 := by rw [hbase]; exact hb2
  obtain ⟨R, hR⟩ : ∃ R, R = readP G T l 0 ([0], []) := ⟨_, rfl⟩
  have hz2 := hb2.size
  have HM2 := Lib.hid hM2; have HR := Lib.hid hR
  have HB2 := Lib.hid (HB1.out.trans (hb12.mono (by omega)))
  have HGT2 := Lib.hid (HGT1.out.below (hb12.mono (by omega)) hB)
  have HI2 := Lib.hid (HI1.out.below (hb12.mono hBb)); have HE2 := Lib.hid (HE1.out.below (hb12.mono hBb))
  clear hM2 hb2 hb12 hR HB1 HGT1 HI1 HE1 c0 c1 c2' c3 c4 c5 t0 t1 t2
  go_wp2_with fail
  go_loopw [24] (fun i wr => ∃ (k : Nat) (s : St), k ≤ n2 ∧ i = .int .i64 (k : Int) ∧ Hid (readP G T (l.drop k) k s = R) ∧ Hid (StOk G T s) ∧ Hid (Mach wr base m (hdM G Ap Al As np cp nl cl ns cs (.slice Aa na ca) (.slice Ag ng cg) (.slice Ac nc cc)) s) ∧ Hid (s.2.length ≤ 10001 * k) ∧ Hid (Fm base w2 wr)) (fun i _ => n2 - (intOf i).toNat)
  case atStart => exact ⟨0, _, by omega, rfl, HR.out.symm, st0 HF.out, HM2.out, Nat.le_refl _, Fm.refl _ _⟩
  case round =>
    focus
      obtain ⟨k, s, hk, rfl, HRk, HSk, HMk, HLk, HFk⟩ := hrel
      have hzr := HFk.out.bel.size
      have hb2r : Below base w2 wr := HFk.out.bel
      have HBr := Lib.hid (HB2.out.trans (hb2r.mono (by omega)))
      have hGTr := HGT2.out.below (hb2r.mono (by omega)) hB
      obtain ⟨⟨c0, c1, c2', c3, c4, c5⟩, tb, hGr, hTr⟩ := id hGTr
      have hEr := HE2.out.below (hb2r.mono hBb)
      have HEr := Lib.hid hEr
      by_cases hlt : k < n2
      · as_aux_lemma =>
          obtain ⟨b, off, rfl, hbB, hcell⟩ := (HI2.out.below (hb2r.mono hBb)).at_ (by have := HL.out; omega)
          have hx := hcell k (by have := HL.out; omega)
          have hxl : l[k]? = some (nth l k) := nth_some (by have := HL.out; omega)
          obtain ⟨x, hxe⟩ : ∃ x, x = nth l k := ⟨_, rfl⟩
          rw [← hxe] at hx hxl
          have HXL := Lib.hid hxl
          have HC := Lib.hid (take_any G Ap Al As np cp nl cl ns cs T Aa na ca Ag ng cg (.slice Ac nc cc) wr B base m s HMk.out (by omega) hBb hGr hTr HF.out HSk.out (by have := HLk.out; omega) E hEr x k)
          clear hcell hxl hxe hGr hTr hEr hGTr tb c0 c1 c2' c3 c4 c5
          cases hto : takeP G T x k s with
          | error c =>
            as_aux_lemma =>
              have HR2 : Hid (R = .error (c, k)) := Lib.hid (by rw [← HRk.out]; exact read_err HXL.out hto)
              have HPP : Hid (nextP G T l = []) := Lib.hid (next_bad (HR.out.symm.trans HR2.out))
              rw [hto] at HC
              clear hto
              go_wp2_with fail
              refine HC.out.mono ?_
              rintro e w4 ⟨rfl, hF4⟩
              have HB4 := Lib.hid (HBr.out.trans (hF4.bel.mono (by omega)))
              clear hF4
              go_wp2_with fail
              go_ret
              rw [HPP.out]
              exact ⟨none, 0, rfl, Rd.nil _ _ _, HB4.out⟩
          | ok s' =>
            as_aux_lemma =>
              have HRk' : Hid (readP G T (l.drop (k + 1)) (k + 1) s' = R) := Lib.hid ((read_yes HXL.out hto).symm.trans HRk.out)
              obtain ⟨hsk, hlk⟩ := take_ok HF.out HSk.out hto
              have HSk' := Lib.hid hsk
              have HLk' : Hid (s'.2.length ≤ 10001 * (k + 1)) := Lib.hid (by have := HLk.out; omega)
              rw [hto] at HC
              clear hto hsk hlk
              go_wp2_with fail
              refine HC.out.mono ?_
              rintro e w4 ⟨⟨rfl, hM4⟩, hF4⟩
              have HM4 := Lib.hid hM4; have HF4 := Lib.hid (HFk.out.trans hF4)
              clear hM4 hF4
              go_wp2_with fail
              go_roundw
              case rel => exact ⟨k + 1, s', by omega, by go_num, HRk', HSk', HM4, HLk', HF4⟩
              case measure => simp [intOf]; omega
      · focus
          have hke : k = n2 := by omega
          subst hke
          have HRS : Hid (readP G T l 0 ([0], []) = .ok s) := Lib.hid (by rw [← HR.out, ← HRk.out]; exact read_end (by have := HL.out; omega))
          obtain ⟨t, ht⟩ := Int.eq_ofNat_of_zero_le HF.out.ok.t0
          have ht3 : t ≤ 300 := by have := HF.out.ok.t1; omega
          have HPP : Hid (nextP G T l = nx G T s (t + 1)) := Lib.hid (next_yes HRS.out ht)
          have HT := Lib.hid ht
          have hgt : G.terms + 1 = ((t + 1 : Nat) : Int) := by rw [ht]; rfl
          have HGTr := Lib.hid hGTr
          have hgle : w.heap.size + 2 ≤ wr.heap.size := by omega
          have HMK := HMk
          have hble : base ≤ wr.heap.size := by omega
          clear hGr hTr hEr hGTr tb c1 c2' c3 c4 c5 ht
          go_wp2_with fail
          obtain ⟨wo, rfl⟩ : ∃ wo : World, wo = wr := ⟨_, rfl⟩
          go_loopw [10, 38] (fun v i wq => ∃ k : Nat, k ≤ t + 1 ∧ i = .int .i64 (k : Int) ∧ Hid (wq.ownsRow wo.heap.size 3 1 v (nx G T s k).length (iv (nx G T s k))) ∧ Hid (Below wo.heap.size wo wq)) (fun _ i _ => t + 1 - (intOf i).toNat)
          case atStart => exact ⟨0, by omega, rfl, World.ownsRow_nil _ _ _ _, Below.refl _ _⟩
          case round =>
            focus
              obtain ⟨j, hj, rfl, HO, HBj⟩ := hrel
              have hszq := HBj.out.size
              obtain ⟨Av, cv, rfl, hv1, hv2, hv3⟩ := own_form HO.out
              have HV3 := Lib.hid hv3
              have hGTq := HGTr.out.below (HBj.out.mono hgle) hB
              have HGTq := Lib.hid hGTq
              have HEq := Lib.hid (HEr.out.below (HBj.out.mono (by omega)))
              obtain ⟨⟨c0, c1', c2q, c3, c4, c5⟩, tb, -, -⟩ := id hGTq
              have t0 := tb.cell (i := 0) rfl
              have t1 := tb.cell (i := 1) rfl
              have t2 := tb.cell (i := 2) rfl
              have hnl := nx_len G T s j
              clear hGTq tb hv3
              by_cases hlt : j < t + 1
              rotate_left
              · as_aux_lemma =>
                  have HKE : Hid (j = t + 1) := Lib.hid (by omega)
                  go_wp2_with fail
                  go_ret
                  rw [HPP.out, ← HKE.out]
                  exact ⟨Av, cv, rfl, HV3.out, HBr.out.trans (HBj.out.mono (by omega))⟩
              obtain ⟨ss, ts⟩ := s
              obtain ⟨sv, tv, vs, U, hM⟩ := HMK.out.ext HBj.out
              obtain ⟨As', cs', rfl, i1, i2, i3⟩ := own_form hM.s
              obtain ⟨At, ct, rfl, i4, i5, i6⟩ := own_form hM.t
              have hml := hM.lt
              have HLT := Lib.hid hlt
              have HM := Lib.hid hM
              have hlen : ts.length ≤ 130000 := by have := HLk.out; simp only at this; omega
              have hlens : ss.length ≤ 130001 := by have h1 := HSk.out.l; simp only at h1; omega
              have HLEN := Lib.hid hlen
              go_wp2_with fail
              obtain ⟨wd, hwd⟩ : ∃ wd, wd = wr.drew := ⟨_, rfl⟩
              have hbd : Below wr.heap.size wr wd := by rw [hwd]; exact ⟨rfl, rfl, rfl, Nat.le_refl _, fun _ _ => rfl⟩
              have hzd : wd.heap.size = wr.heap.size := by rw [hwd]; rfl
              refine wp_region_S (fun w' => ∃ X : WB wr.heap.size wd, w' = X.val) (by kernel_rfl) ?_
              rw [← hwd]
              clear hwd
              have wb : ∀ (X : WB wr.heap.size wd) (q : Addr), q.block < wr.heap.size → X.val.cell? q = wr.cell? q := fun X q z => (X.bel.cell (p := q) z).trans (hbd.cell (p := q) z)
              have k0 : ∀ X : WB wr.heap.size wd, X.val.cell? ⟨w.heap.size, 0, none⟩ = some (.int .i64 G.terms) := fun X => (wb X ⟨w.heap.size, 0, none⟩ (by show w.heap.size < _; omega)).trans c0
              have k1 : ∀ X : WB wr.heap.size wd, X.val.cell? ⟨w.heap.size, 1, none⟩ = some (.int .i64 G.names) := fun X => (wb X ⟨w.heap.size, 1, none⟩ (by show w.heap.size < _; omega)).trans c1'
              have k2 : ∀ X : WB wr.heap.size wd, X.val.cell? ⟨w.heap.size, 2, none⟩ = some (.int .i64 G.start) := fun X => (wb X ⟨w.heap.size, 2, none⟩ (by show w.heap.size < _; omega)).trans c2q
              have k3 : ∀ X : WB wr.heap.size wd, X.val.cell? ⟨w.heap.size, 3, none⟩ = some (.slice Ap np cp) := fun X => (wb X ⟨w.heap.size, 3, none⟩ (by show w.heap.size < _; omega)).trans c3
              have k4 : ∀ X : WB wr.heap.size wd, X.val.cell? ⟨w.heap.size, 4, none⟩ = some (.slice Al nl cl) := fun X => (wb X ⟨w.heap.size, 4, none⟩ (by show w.heap.size < _; omega)).trans c4
              have k5 : ∀ X : WB wr.heap.size wd, X.val.cell? ⟨w.heap.size, 5, none⟩ = some (.slice As ns cs) := fun X => (wb X ⟨w.heap.size, 5, none⟩ (by show w.heap.size < _; omega)).trans c5
              have k6 : ∀ X : WB wr.heap.size wd, X.val.cell? ⟨w.heap.size + 1, 0, none⟩ = some (.slice Aa na ca) := fun X => (wb X ⟨w.heap.size + 1, 0, none⟩ (by show w.heap.size + 1 < _; omega)).trans t0
              have k7 : ∀ X : WB wr.heap.size wd, X.val.cell? ⟨w.heap.size + 1, 1, none⟩ = some (.slice Ag ng cg) := fun X => (wb X ⟨w.heap.size + 1, 1, none⟩ (by show w.heap.size + 1 < _; omega)).trans t1
              have k8 : ∀ X : WB wr.heap.size wd, X.val.cell? ⟨w.heap.size + 1, 2, none⟩ = some (.slice Ac nc cc) := fun X => (wb X ⟨w.heap.size + 1, 2, none⟩ (by show w.heap.size + 1 < _; omega)).trans t2
              have k9 : ∀ X : WB wr.heap.size wd, X.val.cell? ⟨m, 9, none⟩ = some (.slice As' ss.length cs') := fun X => (wb X ⟨m, 9, none⟩ (by show m < _; omega)).trans hM.c9
              have k10 : ∀ X : WB wr.heap.size wd, X.val.cell? ⟨m, 10, none⟩ = some (.slice At ts.length ct) := fun X => (wb X ⟨m, 10, none⟩ (by show m < _; omega)).trans hM.c10
              have HBD := Lib.hid hbd
              have HZD := Lib.hid hzd
              have hCI := clone_I As' ss.length cs' wr.heap.size (iv ss) wd (own_addr HM.out.s) (iv_len _) (by omega) (i3.keep fun p hp => HBD.out.cell hp) (iv_one _)
              have hCT : ∀ W, Below wd.heap.size wd W → _ := fun W hW => clone_T At ts.length ct wr.heap.size vs W (own_addr HM.out.t) HM.out.vl (by omega) ((i6.keep fun p hp => HBD.out.cell hp).keep fun p hp => hW.cell (p := p) (by rw [HZD.out]; exact hp)) (machV_one HM.out)
              have HCI := Lib.hid hCI; have HCT := Lib.hid hCT
              clear hCI hCT hbd hzd wb hM i3 i6 c0 c1' c2q c3 c4 c5 t0 t1 t2
              show wpAnyS _ _ _ _ _ (9 + 6) _ _ _
              refine takeS 9 0 6 (by kernel_rfl) (by kernel_rfl) (fun _ _ d _ _ h => by cases d <;> exact h) ⟨⟨_, Below.refl _ _⟩, rfl⟩ ?_
              simp only [List.take_succ_cons, List.take_zero, List.drop_succ_cons, List.drop_zero]
              repeat (first | go_big_quiet_skip | (go_big_quiet_want; go_big_quiet_op; go_big_quiet_on))
              refine wpQuiet_nil ?_
              show wpAnyS _ _ _ _ _ (5 + 4) _ _ _
              refine takeS 5 7 4 (by kernel_rfl) (by kernel_rfl) (fun _ _ d _ _ h => by cases d <;> exact h) ⟨⟨_, Below.refl _ _⟩, rfl⟩ ?_
              simp only [List.take_succ_cons, List.take_zero, List.drop_succ_cons, List.drop_zero]
              repeat (first | go_big_quiet_skip | (go_big_quiet_want; go_big_quiet_op; go_big_quiet_on))
              refine wpQuiet_nil ?_
              clear k0 k1 k2 k3 k4 k5 k6 k7 k8 k9 k10
              refine oneS 4 6 (by kernel_rfl) (by decide) ?_
              simp only [List.take_succ_cons, List.take_zero, List.drop_succ_cons, List.drop_zero]
              go_wp2_with fail
              refine HCI.out.mono ?_
              rintro e w3 ⟨v1, rfl, ho1, hb1⟩
              obtain ⟨A3, c3', rfl, -, -, -⟩ := own_form ho1
              have HB3 := Lib.hid hb1; have HO3 := Lib.hid ho1
              have HCT3 := Lib.hid (HCT.out w3 hb1)
              have HS3 : Hid (Below wr.heap.size wd w3) := Lib.hid (hb1.mono (by rw [HZD.out]; exact Nat.le_refl _))
              clear hb1 ho1 HCI HCT
              go_wp2_with fail
              refine ⟨⟨WB.mk _ HS3.out, rfl⟩, ?_⟩
              refine oneS 3 11 (by kernel_rfl) (by decide) ?_
              simp only [List.take_succ_cons, List.take_zero, List.drop_succ_cons, List.drop_zero]
              go_wp2_with fail
              refine HCT3.out.mono ?_
              rintro e w4 ⟨v2, rfl, ho2, hb2⟩
              obtain ⟨A4, c4', rfl, -, -, -⟩ := own_form ho2
              have HS4 : Hid (Below wr.heap.size wd w4) := Lib.hid (HS3.out.trans (hb2.mono (by have h1 := HS3.out.size; have h2 := HZD.out; omega)))
              have HO34 := Lib.hid (own_ext HO3.out hb2); have HO4 := Lib.hid ho2
              clear hb2 ho2 HCT3
              go_wp2_with fail
              refine ⟨⟨WB.mk _ HS4.out, rfl⟩, ?_⟩
              refine oneS 2 12 (by kernel_rfl) (by decide) ?_
              simp only [List.take_succ_cons, List.take_zero, List.drop_succ_cons, List.drop_zero]
              refine wpList_built rfl _ _ rfl #[.int .i64 G.terms, .int .i64 G.names, .int .i64 G.start, .slice Ap np cp, .slice Al nl cl, .slice As ns cs, .slice Aa na ca, .slice Ag ng cg, .slice Ac nc cc, .slice A3 ss.length c3', .slice A4 ts.length c4', .nilFunc, .nilFunc, .nilFunc, .nilFunc] (by kernel_rfl) ?_
              go_wp2_with fail
              refine ⟨⟨WB.mk _ HS4.out, rfl⟩, ?_⟩
              refine oneS 1 13 (by kernel_rfl) (by decide) ?_
              simp only [List.take_succ_cons, List.take_zero, List.drop_succ_cons, List.drop_zero]
              go_wp2_with fail
              obtain ⟨L, hL⟩ : ∃ L : List Value, L = hdM G Ap Al As np cp nl cl ns cs (.slice Aa na ca) (.slice Ag ng cg) (.slice Ac nc cc) ++ [Value.slice A3 ss.length c3', Value.slice A4 ts.length c4'] := ⟨_, rfl⟩
              obtain ⟨w5, hw5⟩ : ∃ w5, w5 = w4.alloc (.cells (L ++ [Value.nilFunc, Value.nilFunc, Value.nilFunc, Value.nilFunc]).toArray 93) := ⟨_, rfl⟩
              have hk5 : Blk w5 w4.heap.size 93 (L ++ [Value.nilFunc, Value.nilFunc, Value.nilFunc, Value.nilFunc]) := by rw [hw5]; exact Blk.new w4 93 (L ++ [Value.nilFunc, Value.nilFunc, Value.nilFunc, Value.nilFunc])
              have hw5' : w5 = w4.alloc (.cells #[.int .i64 G.terms, .int .i64 G.names, .int .i64 G.start, .slice Ap np cp, .slice Al nl cl, .slice As ns cs, .slice Aa na ca, .slice Ag ng cg, .slice Ac nc cc, .slice A3 ss.length c3', .slice A4 ts.length c4', .nilFunc, .nilFunc, .nilFunc, .nilFunc] 93) := by rw [hw5, hL]; rfl
              have hb45 : Below w4.heap.size w4 w5 := by rw [hw5]; exact (Below.refl _ _).alloc (Nat.le_refl _) _
              rw [← hw5']
              have hC5 := set_any w4.heap.size w5 L _ _ _ _ (by rw [hL]; rfl) hk5
              have h34 : wr.heap.size ≤ w4.heap.size := by have h1 := HS4.out.size; have h2 := HZD.out; omega
              have HS5 : Hid (Below wr.heap.size wd w5) := Lib.hid (HS4.out.trans (hb45.mono h34))
              have HO35 := Lib.hid (own_ext HO34.out hb45); have HO45 := Lib.hid (own_ext HO4.out hb45)
              have HLTR : Hid (w4.heap.size < w5.heap.size ∧ (∀ b, (Value.slice A3 ss.length c3').ownBlock = some b → b ≠ w4.heap.size) ∧ (∀ b, (Value.slice A4 ts.length c4').ownBlock = some b → b ≠ w4.heap.size)) := Lib.hid ⟨hk5.lt, fun b e => by have := (HO34.out.lt b e).2; omega, fun b e => by have := (HO4.out.lt b e).2; omega⟩
              have HC5 := Lib.hid hC5; have HLL := Lib.hid hL
              clear hw5 hw5' hk5 hb45 hC5 hL HO34 HO4 HO3
              refine ⟨⟨WB.mk _ HS5.out, rfl⟩, ?_⟩
              show wpAnyS _ _ _ _ _ (0 + 1) _ _ _
              refine takeS 0 14 1 (by kernel_rfl) (by kernel_rfl) (fun _ _ d _ _ h => by cases d <;> exact h) ⟨WB.mk _ HS5.out, rfl⟩ ?_
              simp only [List.take_succ_cons, List.take_zero, List.drop_succ_cons, List.drop_zero]
              repeat (first | go_big_quiet_skip | (go_big_quiet_want; go_big_quiet_op; go_big_quiet_on))
              refine wpQuiet_nil ?_
              refine endS (by kernel_rfl) ?_
              go_wp2_with fail
              refine HC5.out.mono ?_
              rintro e w6 ⟨rfl, hk6, hkp⟩
              have hg6 : w5.grownBy w6 (some w4.heap.size) := ⟨hkp.os, hkp.tape, hkp.output, hkp.size, fun q h1 h2 => hkp.block q h1 (fun e => h2 (by rw [e]))⟩
              have hb6 : Below wr.heap.size wr w6 := HBD.out.trans (HS5.out.trans (hkp.bel (by have := HLTR.out.1; omega) (fun q h1 h2 => by omega)))
              have hs6 := own_lower (b0 := wr.heap.size) (HO35.out.kept hg6 (by
                cases e : (Value.slice A3 ss.length c3').ownBlock with
                | none => exact .inl rfl
                | some b => exact .inr (fun e2 => HLTR.out.2.1 b e (by injection e2)))) (by rw [HZD.out]; exact Nat.le_refl _)
              have ht6 := own_lower (b0 := wr.heap.size) (HO45.out.kept hg6 (by
                cases e : (Value.slice A4 ts.length c4').ownBlock with
                | none => exact .inl rfl
                | some b => exact .inr (fun e2 => HLTR.out.2.2 b e (by injection e2)))) (by have h1 := HS3.out.size; have h2 := HZD.out; omega)
              have hM6 : Mach w6 wr.heap.size w4.heap.size (hdM G Ap Al As np cp nl cl ns cs (.slice Aa na ca) (.slice Ag ng cg) (.slice Ac nc cc)) (ss, ts) := HM.out.cloned hb6 hs6 ht6 (by have := hk6; rw [HLL.out] at this; exact this) rfl h34
              have hz6 := hb6.size
              have hGT6 := HGTq.out.below (hb6.mono (by omega)) hB
              have hC6 := settle_any G Ap Al As np cp nl cl ns cs T Aa na ca Ag ng cg (.slice Ac nc cc) w6 B wr.heap.size w4.heap.size (ss, ts) hM6 (by omega) (by omega) hGT6.hG hGT6.hT HF.out HSk.out (by have := HLEN.out; simp only; omega) E (HEq.out.below (hb6.mono (by omega))) (j : Int) (by omega) (by rw [HT.out]; have := HLT.out; omega)
              have HC6 := Lib.hid hC6; have HB6 := Lib.hid hb6
              clear hC6 hb6 hk6 hkp hg6 hs6 ht6 hM6 hGT6 HS3 HS4 HS5 HC5
              cases hto : settleP G T (j : Int) 10000 (ss, ts) with
              | error c =>
                as_aux_lemma =>
                  have HNX : Hid (nx G T (ss, ts) (j + 1) = nx G T (ss, ts) j) := Lib.hid (nx_no hto)
                  rw [hto] at HC6
                  clear hto
                  go_wp2_with fail
                  refine HC6.out.mono ?_
                  rintro e w7 ⟨⟨a, b, rfl⟩, hF7⟩
                  have hb8 : Below wr.heap.size wr (w7.alloc (.cells #[.int .i64 a, .int .i64 b] 82)) := (HB6.out.trans hF7.bel).alloc (HB6.out.trans hF7.bel).size _
                  have HO8 := Lib.hid (own_ext HO.out hb8)
                  have HB8 := Lib.hid (HBj.out.trans (hb8.mono hszq))
                  clear hF7 hb8
                  go_wp2_with fail
                  go_roundw
                  case rel => exact ⟨j + 1, by have := HLT.out; omega, by go_num, Lib.hid (by rw [HNX.out]; exact HO8.out), HB8⟩
                  case measure => have := HLT.out; simp [intOf]; omega
              | ok q =>
                obtain ⟨s', to⟩ := q
                as_aux_lemma =>
                  have HNX : Hid (nx G T (ss, ts) (j + 1) = nx G T (ss, ts) j ++ [(j : Int)]) := Lib.hid (nx_yes hto)
                  rw [hto] at HC6
                  clear hto
                  go_wp2_with fail
                  refine HC6.out.mono ?_
                  rintro e w7 ⟨⟨a, rfl, -⟩, hF7⟩
                  have hb8 : Below wr.heap.size wr (w7.alloc (.cells #[.int .i64 a, .int .i64 to] 82)) := (HB6.out.trans hF7.bel).alloc (HB6.out.trans hF7.bel).size _
                  have HO8 := Lib.hid (own_ext HO.out hb8)
                  have HB8 := Lib.hid (HBj.out.trans (hb8.mono hszq))
                  have HZ8 : Hid (wo.heap.size ≤ (w7.alloc (.cells #[.int .i64 a, .int .i64 to] 82)).heap.size) := Lib.hid HB8.out.size
                  clear hF7 hb8
                  go_wp2_with (at_builtin; refine wpList_app elIn rfl (.tmp 65) (.tmp 67) rfl wo.heap.size _ (nx G T (ss, ts) j).length 1 (iv (nx G T (ss, ts) j)) [.int .i64 (j : Int)] rfl HO8.out (by first | rfl | (simp; done) | (simp; rfl)) rfl (by simp [Value.oneCell']) ?_ ?_ HZ8.out ?_; omega; omega; intro v9 w9 hown9 hg9 hat9; obtain ⟨A9, cA9, rfl, -, -, -⟩ := own_form hown9; have HO9 := Lib.hid hown9; have HB9 := Lib.hid (HB8.out.grown hg9 HZ8.out (fun b e => (HO8.out.lt b e).1)); clear hown9 hg9 hat9)
                  go_roundw
                  case rel => exact ⟨j + 1, by have := HLT.out; omega, by go_num, Lib.hid (by rw [HNX.out, List.length_append, iv_app]; exact HO9.out), HB9⟩
                  case measure => have := HLT.out; simp [intOf]; omega
theorem pnext_no (G : Gr) (Ap Al As : Option Addr) (np cp nl cl ns cs : Nat) (T : Tb) (Aa : Option Addr) (na ca : Nat) (Ag : Option Addr) (ng cg : Nat) (Ac : Option Addr) (nc cc : Nat) (A2 : Option Addr) (n2 c2 : Nat) (w : World) (B : Nat) (hB : B ≤ w.heap.size) (hG : GrIn w B G Ap Al As np cp nl cl ns cs) (hT : TbIn w B T Aa na ca Ag ng cg) (hf : ¬ TFits G T) :
    Calls Tryd.prog 19 #[.agg #[.int .i64 G.terms, .int .i64 G.names, .int .i64 G.start, .slice Ap np cp, .slice Al nl cl, .slice As ns cs], .agg #[.slice Aa na ca, .slice Ag ng cg, .slice Ac nc cc], .slice A2 n2 c2] w (NxEnd w []) := by
  obtain ⟨w0, hw0, hb0, hs0, hGT⟩ := GTb.mk_ w hB G Ap Al As np cp nl cl ns cs T Aa na ca Ag ng cg (.slice Ac nc cc) hG hT
  have hC1 := pfits_any G Ap Al As np cp nl cl ns cs T Aa na ca Ag ng cg (.slice Ac nc cc) w0 B (by omega) hGT.hG hGT.hT
  rw [fitB_f hf] at hC1
  obtain ⟨⟨c0, c1, c2', c3, c4, c5⟩, tb, -, -⟩ := id hGT
  have t0 := tb.cell (i := 0) rfl
  have t1 := tb.cell (i := 1) rfl
  have t2 := tb.cell (i := 2) rfl
  have HC1 := Lib.hid hC1; have HB0 := Lib.hid hb0; have HS0 := Lib.hid hs0
  clear hC1 hb0 hGT hG hT tb hf
  go_enter Tryd.func19, Tryd.ntmps19
  go_wp2_with fail
  rw [← hw0]
  clear hw0
  refine HC1.out.mono ?_
  rintro e w1 ⟨rfl, hb1⟩
  have HB1 := Lib.hid (HB0.out.trans (hb1.mono (by omega)))
  clear hb1 c0 c1 c2' c3 c4 c5 t0 t1 t2
  go_wp2_with fail
  go_ret
  exact ⟨none, 0, rfl, Rd.nil _ _ _, HB1.out⟩
end Go.Proofs.YtinejiodnnjpgaaDoor
