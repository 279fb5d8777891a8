/- The document's Parse and Next. · Plain: what may come next, terminal by terminal. -/
import Derived.Test.YtinejiodnnjpgaaDoorQ23
import Derived.Test.YtinejiodnnjpgaaDoorQ8
namespace Go.Proofs.YtinejiodnnjpgaaDoor
open Go.RowKit BigFrame
set_option linter.unusedVariables false
set_option linter.unusedSimpArgs false
set_option maxRecDepth 100000

/-- What the document's Parse answers. -/
def RpEnd (w : World) (E : Nat → Addr) (r : Except (Nat × Nat) Tr) (e : Ending) (w' : World) : Prop :=
  (match r with
    | .error (c, i) => e = .returned (.tuple #[.pointer none, ew (E c), .int .i64 (i : Int)])
    | .ok t => ∃ v, e = .returned (.tuple #[v, .nilIface, .int .i64 0]) ∧ TrB w' w'.heap.size v t) ∧ Below w.heap.size w w'
theorem read_all {G : Gr} {T : Tb} (hf : TFits G T) : ∀ (l : List Int) (i : Nat) (st st' : St), StOk G T st → readP G T l i st = .ok st' → StOk G T st' ∧ st'.2.length ≤ st.2.length + 10001 * l.length
  | [], i, st, st', h, e => by
    unfold readP at e
    cases e
    exact ⟨h, by omega⟩
  | t :: l, i, st, st', h, e => by
    unfold readP at e
    split at e
    · cases e
    · rename_i s hs
      obtain ⟨h1, h2⟩ := take_ok hf h hs
      obtain ⟨h3, h4⟩ := read_all hf l (i + 1) s st' h1 e
      exact ⟨h3, by rw [List.length_cons]; omega⟩

set_option maxHeartbeats 4000000 in
theorem rparse_any (G : Gr) (Ap Al As : Option Addr) (np cp nl cl ns cs : Nat) (T : Tb) (Aa : Option Addr) (na ca : Nat) (Ag : Option Addr) (ng cg : Nat) (tc : Value) (A2 : Option Addr) (n2 c2 : Nat) (l : List Int) (hl : l.length = n2) (w : World) (B : Nat) (hB : B ≤ w.heap.size) (hG : GrIn w B G Ap Al As np cp nl cl ns cs) (hT : TbIn w B T Aa na ca Ag ng cg) (hI : RdI w B A2 l) (h12 : n2 ≤ 12) (hf : TFits G T) (E : Nat → Addr) (hE : ErW w B E) :
    Calls Tryd.prog 20 #[.agg #[.int .i64 G.terms, .int .i64 G.names, .int .i64 G.start, .slice Ap np cp, .slice Al nl cl, .slice As ns cs], .agg #[.slice Aa na ca, .slice Ag ng cg, tc], .slice A2 n2 c2] w (RpEnd w E (parseP G T l)) := by
  obtain ⟨w0, hw0, hb0, hs0, hGT⟩ := GTb.mk_ w hB G Ap Al As np cp nl cl ns cs T Aa na ca Ag ng cg tc hG hT
  have hC1 := rread_any G Ap Al As np cp nl cl ns cs T Aa na ca Ag ng cg tc A2 n2 c2 l hl w0 B (by omega) hGT.hG hGT.hT (hI.below (hb0.mono hB)) h12 hf E (hE.below (hb0.mono hB))
  obtain ⟨⟨c0, c1, c2', c3, c4, c5⟩, tb, -, -⟩ := id hGT
  have t0 := tb.cell (i := 0) rfl
  have t1 := tb.cell (i := 1) rfl
  have t2 := tb.cell (i := 2) rfl
  have hE0 := hE.below (hb0.mono hB)
  have HB0 := Lib.hid hb0; have HS0 := Lib.hid hs0; have HGT := Lib.hid hGT; have HE := Lib.hid hE0; have HL := Lib.hid hl; have HF := Lib.hid hf
  have HC1 := Lib.hid hC1
  clear hb0 hGT hI hE hE0 hG hT tb hl hf hC1
  subst hw0
  go_enter Tryd.func20, Tryd.ntmps20
  go_wp2_with fail
  generalize (w.alloc (.cells #[.int .i64 G.terms, .int .i64 G.names, .int .i64 G.start, .slice Ap np cp, .slice Al nl cl, .slice As ns cs] 34)).alloc (.cells #[.slice Aa na ca, .slice Ag ng cg, tc] 47) = w0 at *
  cases hr : readP G T l 0 ([0], []) with
  | error q =>
    obtain ⟨c, i⟩ := q
    as_aux_lemma =>
      have HPP : Hid (parseP G T l = .error (c, i)) := Lib.hid (parse_bad hr)
      rw [hr] at HC1
      clear hr
      refine HC1.out.mono ?_
      rintro e w1 ⟨⟨A, n, c1, A2', n2', c2', rfl⟩, hb1⟩
      have HB1 := Lib.hid (HB0.out.trans (hb1.mono (by omega)))
      clear hb1
      go_wp2_with fail
      go_ret3
      rw [HPP.out]
      exact ⟨rfl, HB1.out.alloc HB1.out.size _⟩
  | ok s =>
    as_aux_lemma =>
      obtain ⟨hs1, hs2⟩ := read_all HF.out l 0 _ _ (st0 HF.out) hr
      have HR := Lib.hid hr; have HS1 := Lib.hid hs1
      have HLEN : Hid (s.2.length ≤ 90000000) := Lib.hid (by have := HL.out; simp only [List.length_nil] at hs2; omega)
      rw [hr] at HC1
      clear hr hs1 hs2
      refine HC1.out.mono ?_
      rintro e w1 ⟨⟨A, n, c1, A2', n2', c2', rfl, hst⟩, hb1⟩
      obtain ⟨w2, hw2⟩ : ∃ w2, w2 = w1.alloc (.cells #[.slice A n c1, .slice A2' n2' c2'] 97) := ⟨_, rfl⟩
      have hb2 : Below w1.heap.size w1 w2 := by rw [hw2]; exact (Below.refl _ _).alloc (Nat.le_refl _) _
      have hk2 : Blk w2 w1.heap.size 97 [.slice A n c1, .slice A2' n2' c2'] := by rw [hw2]; exact Blk.new w1 97 [.slice A n c1, .slice A2' n2' c2']
      have hz1 := hb1.size; have hz2 := hb2.size
      have hb02 : Below w0.heap.size w0 w2 := hb1.trans (hb2.mono hz1)
      have hGT2 := HGT.out.below (hb02.mono (by omega)) hB
      have hE2 := HE.out.below (hb02.mono (by omega))
      have hC2 := rsettle_any G Ap Al As np cp nl cl ns cs T Aa na ca Ag ng cg tc w2 B w0.heap.size (.slice A n c1) (.slice A2' n2' c2') s (hst.ext hb2) (by omega) (by omega) hGT2.hG hGT2.hT HF.out HS1.out HLEN.out E hE2 G.terms HF.out.ok.t0 (Int.le_refl _)
      obtain ⟨⟨c0, c1'', c2q, c3, c4, c5⟩, tb, -, -⟩ := (HGT.out.below (hb1.mono (by omega)) hB)
      have t0 := tb.cell (i := 0) rfl
      have t1 := tb.cell (i := 1) rfl
      have t2 := tb.cell (i := 2) rfl
      have hlt1 : w.heap.size < w1.heap.size := by omega
      have hlt2 : w.heap.size + 1 < w1.heap.size := by omega
      have HB2 : Hid (Below w.heap.size w w2) := Lib.hid (HB0.out.trans (hb02.mono (by omega)))
      have HC2 := Lib.hid hC2
      clear hst hb1 hb2 hk2 hb02 hGT2 hE2 hC2 tb
      subst hw2
      go_wp2_with fail
      generalize w1.alloc (.cells #[.slice A n c1, .slice A2' n2' c2'] 97) = w2 at *
      cases hto : settleP G T G.terms 10000 s with
      | error c =>
        as_aux_lemma =>
          have HPP : Hid (parseP G T l = .error (c, n2)) := Lib.hid (by rw [← HL.out]; exact parse_end HR.out hto)
          rw [hto] at HC2
          clear hto
          refine HC2.out.mono ?_
          rintro e w4 ⟨⟨A5, n5, c5, A6, n6, c6, rfl⟩, hb4⟩
          have HB4 := Lib.hid (HB2.out.trans (hb4.mono HB2.out.size))
          clear hb4
          go_wp2_with fail
          go_ret3
          rw [HPP.out]
          exact ⟨rfl, HB4.out.alloc HB4.out.size _⟩
      | ok q =>
        obtain ⟨s', to⟩ := q
        as_aux_lemma =>
          have HPP : Hid (parseP G T l = .ok (s'.2.headD .nil)) := Lib.hid (parse_yes HR.out hto)
          have hacc := settle_end HF.out 10000 s s' to HS1.out hto
          have hs' := (settle_ok HF.out HF.out.ok.t0 (Int.le_refl _) 10000 s s' to HS1.out hto).1
          have HACC := Lib.hid hacc.1; have HS' := Lib.hid hs'
          rw [hto] at HC2
          clear hto hacc hs'
          refine HC2.out.mono ?_
          rintro e w4 ⟨⟨A5, n5, c5', A6, n6, c6, rfl, sv, tv, vs, U, e1, hv4⟩, hb4⟩
          cases e1
          obtain ⟨w5, hw5⟩ : ∃ w5, w5 = w4.alloc (.cells #[.slice A5 n5 c5', .slice A6 n6 c6] 97) := ⟨_, rfl⟩
          have hb5 : Below w4.heap.size w4 w5 := by rw [hw5]; exact (Below.refl _ _).alloc (Nat.le_refl _) _
          have hM5 := hv4.ext hb5
          obtain ⟨ss', ts'⟩ := s'
          obtain ⟨tb, ct, nb, p, tok, ks, rfl, hp, e2, g1, g2, g3, y1, g4, y2⟩ := one_tree hM5.t hM5.tr (fun b q => (hM5.u b q).1) HS'.out HACC.out
          simp only [Value.slice.injEq] at e2
          obtain ⟨rfl, rfl, rfl⟩ := e2
          unfold maxLen at g2
          have HTR : Hid (TrB w5 w5.heap.size (.pointer (some ⟨nb, 0, none⟩)) (.node p tok ks)) := Lib.hid (by
            obtain ⟨u, h1, h2⟩ := hM5.tr 0 _ rfl
            obtain ⟨_, _, e1, _, _, _, _, hc1⟩ := own_at hM5.t (by simp)
            cases e1
            have := hc1 0 _ h1
            rw [y1] at this
            cases this
            exact TrIn.keep (fun _ _ => rfl) (fun b q => (hM5.u b q).1) h2)
          have HB5 := Lib.hid ((HB2.out.trans (hb4.mono HB2.out.size)).trans (hb5.mono (Nat.le_trans HB2.out.size hb4.size)))
          clear hv4 hM5 hb4 hb5 hp HS' HACC
          subst hw5
          go_wp2_with fail
          go_ret3
          rw [HPP.out]
          exact ⟨⟨_, rfl, HTR.out⟩, HB5.out⟩
end Go.Proofs.YtinejiodnnjpgaaDoor
namespace Go.Proofs.YtinejiodnnjpgaaDoor
open Go.RowKit BigFrame
set_option linter.unusedVariables false
set_option linter.unusedSimpArgs false

noncomputable def nx (G : Gr) (T : Tb) (st : St) (k : Nat) : List Int := ((List.range k).filter fun (k : Nat) => isOkS G T st k).map fun (k : Nat) => (k : Int)
theorem nx_zero (G : Gr) (T : Tb) (st : St) : nx G T st 0 = [] := rfl
theorem nx_yes {G : Gr} {T : Tb} {st : St} {k : Nat} {q : St × Int} (h : settleP G T (k : Int) 10000 st = .ok q) : nx G T st (k + 1) = nx G T st k ++ [(k : Int)] := by
  have : isOkS G T st (k : Int) = true := by unfold isOkS; rw [h]
  unfold nx
  rw [List.range_succ, List.filter_append, List.map_append]
  simp [this]
theorem nx_no {G : Gr} {T : Tb} {st : St} {k c : Nat} (h : settleP G T (k : Int) 10000 st = .error c) : nx G T st (k + 1) = nx G T st k := by
  have : isOkS G T st (k : Int) = false := by unfold isOkS; rw [h]
  unfold nx
  rw [List.range_succ, List.filter_append, List.map_append]
  simp [this]
theorem nx_len (G : Gr) (T : Tb) (st : St) (k : Nat) : (nx G T st k).length ≤ k := by
  unfold nx
  rw [List.length_map]
  exact Nat.le_trans (List.length_filter_le _ _) (by simp)
theorem next_bad {G : Gr} {T : Tb} {l : List Int} {c : Nat × Nat} (h : readP G T l 0 ([0], []) = .error c) : nextP G T l = [] := by unfold nextP; rw [h]
theorem next_yes {G : Gr} {T : Tb} {l : List Int} {st : St} (h : readP G T l 0 ([0], []) = .ok st) {t : Nat} (ht : G.terms = (t : Int)) : nextP G T l = nx G T st (t + 1) := by
  unfold nextP
  rw [h]
  unfold nx
  rw [ht, show ((t : Int) + 1).toNat = t + 1 by omega]
end Go.Proofs.YtinejiodnnjpgaaDoor
