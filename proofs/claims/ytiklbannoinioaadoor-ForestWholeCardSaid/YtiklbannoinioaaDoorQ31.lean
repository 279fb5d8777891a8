/- The program's Sound. · A grammar that came in; what 'laid' gives for the decimal text of an int. · The law ForestWhole walked: it returns true. -/
import Derived.Test.YtiklbannoinioaaDoorQ30
import Derived.Test.YtiklbannoinioaaDoorQ10
import Derived.Test.YtiklbannoinioaaDoorQ27
import Derived.Test.YtiklbannoinioaaDoorQ3
import Derived.Test.YtiklbannoinioaaDoorQ2
import Derived.Test.YtiklbannoinioaaDoorRows
import Derived.ProofKit
import Derived.LaidMore
import Derived.OpenShut
import Derived.Lib.LaidTab
import Derived.Test.YtiklbannoinioaaDoorQ29
import Derived.Test.YtiklbannoinioaaDoorQ26
namespace Go.Proofs.YtiklbannoinioaaDoor
open Go.RowKit BigFrame
set_option linter.unusedVariables false
set_option linter.unusedSimpArgs false
set_option maxRecDepth 100000

theorem sound_nil (G : Gr) (Ap Al As : Option Addr) (np cp nl cl ns cs : Nat) (l : List Int) (A : Option Addr) (n c q : Nat) (s : Int) (at_ : Nat) (w : World) (hQ : Blk w q 3 [.int .i64 (at_ : Int)]) :
    Calls Tryd.prog 21 #[.agg #[.int .i64 G.terms, .int .i64 G.names, .int .i64 G.start, .slice Ap np cp, .slice Al nl cl, .slice As ns cs], .pointer none, .int .i64 s, .slice A n c, .pointer (some ⟨q, 0, none⟩)] w (SdEnd q (lvT G l .nil s at_) w) := by
  obtain ⟨hb0, hs0, gb⟩ := gbox w G Ap Al As np cp nl cl ns cs
  have HB0 := Lib.hid hb0; have HQ := Lib.hid hQ
  have HN := Lib.hid (show lvT G l .nil s at_ = none by rw [lvT])
  clear hb0 gb hs0 hQ
  rw [HN.out]
  go_enter Tryd.func21, Tryd.ntmps21
  go_wp2_with fail
  go_ret
  exact sd_ret rfl rfl ⟨at_, (fun b e => by cases e), (HQ.out.alloc _)⟩ ((Kp.of HB0.out))
theorem sound_any (G : Gr) (Ap Al As : Option Addr) (np cp nl cl ns cs : Nat) (hk : GOk G) (B q : Nat) (hq : B ≤ q) (A : Option Addr) (n c : Nat) (l : List Int) (hl : l.length = n) (hn : n ≤ 100) : ∀ (N : Nat), N ≤ 60000000 → ∀ (t : Tr), szT t ≤ N → ∀ (v : Value) (s : Int) (at_ : Nat) (w : World), Blk w q 3 [.int .i64 (at_ : Int)] → B ≤ w.heap.size → GrIn w B G Ap Al As np cp nl cl ns cs → TrB w B v t → RdI w B A l → at_ ≤ n → -1000 ≤ s → s ≤ 1000 →
    Calls Tryd.prog 21 #[.agg #[.int .i64 G.terms, .int .i64 G.names, .int .i64 G.start, .slice Ap np cp, .slice Al nl cl, .slice As ns cs], v, .int .i64 s, .slice A n c, .pointer (some ⟨q, 0, none⟩)] w (SdEnd q (lvT G l t s at_) w) := by
  intro N
  induction N with
  | zero => intro _ t h; have := szT_pos t; omega
  | succ N ih =>
    intro hN t h v s at_ w hQ hB hG hT hI hat hs1 hs2
    cases t with
    | nil =>
      obtain rfl := hT.nil_inv
      exact sound_nil G Ap Al As np cp nl cl ns cs l A n c q s at_ w hQ
    | node p tok ks =>
      rw [szT] at h
      by_cases hs : 0 ≤ s
      · exact sound_leaf G Ap Al As np cp nl cl ns cs hk B q hq A n c l hl hn p tok ks v s at_ w hQ hB hT hI hat hs1 hs2 (by have := szL_len ks; omega) hs
      · exact sound_node G Ap Al As np cp nl cl ns cs hk B q hq A n c l hl hn N (ih (by omega)) p tok ks (by omega) v s at_ w hQ hB hG hT hI hat hs1 hs2 hs

set_option maxHeartbeats 4000000 in
theorem psound_any (G : Gr) (Ap Al As : Option Addr) (np cp nl cl ns cs : Nat) (B : Nat) (A : Option Addr) (n c : Nat) (l : List Int) (hl : l.length = n) (hn : n ≤ 100) (t : Tr) (ht : szT t ≤ 60000000) (v : Value) (w : World) (hB : B ≤ w.heap.size) (hG : GrIn w B G Ap Al As np cp nl cl ns cs) (hT : TrB w B v t) (hI : RdI w B A l) :
    Calls Tryd.prog 10 #[.agg #[.int .i64 G.terms, .int .i64 G.names, .int .i64 G.start, .slice Ap np cp, .slice Al nl cl, .slice As ns cs], v, .slice A n c] w fun e w' => e = .returned (.bool (okB G && soundB G t l)) ∧ Below w.heap.size w w' := by
  obtain ⟨hb0, hs0, gb⟩ := gbox w G Ap Al As np cp nl cl ns cs
  have hG1 := hG.below (hb0.mono hB)
  have hC := ok_any G Ap Al As np cp nl cl ns cs (w.alloc (.cells #[.int .i64 G.terms, .int .i64 G.names, .int .i64 G.start, .slice Ap np cp, .slice Al nl cl, .slice As ns cs] 25)) B (by rw [hs0]; omega) hG1
  rw [hs0] at hC
  have HC := Lib.hid hC
  have HB0 := Lib.hid hb0; have HGB := Lib.hid gb; have HG := Lib.hid hG; have HT := Lib.hid hT; have HI := Lib.hid hI; have HS0 := Lib.hid hs0
  clear hG hT hI hb0 gb hG1 hC hs0
  by_cases hk : GOk G
  rotate_left
  · have HK := Lib.hid (okB_f hk)
    rw [HK.out] at HC
    rw [HK.out]
    clear hk
    go_enter Tryd.func10, Tryd.ntmps10
    go_wp2_with fail
    generalize w.alloc (.cells #[.int .i64 G.terms, .int .i64 G.names, .int .i64 G.start, .slice Ap np cp, .slice Al nl cl, .slice As ns cs] 25) = W0 at *
    refine HC.out.mono ?_
    rintro e w1 ⟨rfl, hb1⟩
    go_wp2
    go_ret
    exact ⟨rfl, HB0.out.trans (hb1.mono (Nat.le_succ _))⟩
  · as_aux_lemma =>
      have HK := Lib.hid (okB_t hk)
      rw [HK.out] at HC
      rw [HK.out]
      have h1 := hk.s0; have h2 := hk.s1; have h3 := hk.n1
      have HD := Lib.hid (fun (q : Nat) (hq : B ≤ q) (w : World) (hQ : Blk w q 3 [.int .i64 ((0 : Nat) : Int)]) (hB : B ≤ w.heap.size) (hG : GrIn w B G Ap Al As np cp nl cl ns cs) (hT : TrB w B v t) (hI : RdI w B A l) => sound_any G Ap Al As np cp nl cl ns cs hk B q hq A n c l hl hn 60000000 (by decide) t ht v (-1 - G.start) 0 w hQ hB hG hT hI (Nat.zero_le _) (by omega) (by omega))
      have HS : Hid (soundB G t l = decide (lvT G l t (-1 - G.start) 0 = some n)) := Lib.hid (by unfold soundB; rw [hl])
      clear hk
      go_enter Tryd.func10, Tryd.ntmps10
      go_wp2_with fail
      generalize w.alloc (.cells #[.int .i64 G.terms, .int .i64 G.names, .int .i64 G.start, .slice Ap np cp, .slice Al nl cl, .slice As ns cs] 25) = W0 at *
      refine HC.out.mono ?_
      rintro e w1 ⟨rfl, hb1⟩
      have hba : Below (w.heap.size + 1) W0 (w1.alloc (.cells #[.int .i64 0] 3)) := hb1.alloc (by have := hb1.size; have := HS0.out; omega) _
      have hsz : (w1.alloc (.cells #[.int .i64 0] 3)).heap.size = w1.heap.size + 1 := by simp
      have hw1 : w.heap.size + 1 ≤ w1.heap.size := by have := hb1.size; have := HS0.out; omega
      obtain ⟨c0, c1, c2', c3, c4, c5⟩ := HGB.out.below hba (Nat.lt_succ_self _)
      have hb2 : Below B w (w1.alloc (.cells #[.int .i64 0] 3)) := (HB0.out.mono hB).trans (hba.mono (by omega))
      have HE := Lib.hid (HD.out w1.heap.size (by omega) (w1.alloc (.cells #[.int .i64 0] 3)) (Blk.new w1 3 [.int .i64 0]) (by rw [hsz]; omega) (HG.out.below hb2) (TrB.below HT.out hb2) (HI.out.below hb2))
      have HA := Lib.hid hba; have HW1 := Lib.hid hw1; have HSZ := Lib.hid hsz
      clear hba hb2 HD HGB HG HT HI HC hsz hw1 hb1
      generalize lvT G l t (-1 - G.start) 0 = o at *
      go_wp2_with fail
      refine HE.out.mono ?_
      rintro e w5 ⟨rfl, ⟨a5, ha5, hb5⟩, hk5⟩
      have hfin : Below w.heap.size w w5 := HB0.out.trans ((HA.out.mono (Nat.le_succ _)).trans (hk5.bel (by rw [HSZ.out]; have := HW1.out; omega) (fun k hk e => by have := HW1.out; omega)))
      have HF := Lib.hid hfin
      have zq := hb5.cell (i := 0) rfl
      clear hk5 hb5 hfin c0 c1 c2' c3 c4 c5
      cases o
      · as_aux_lemma =>
          have HN : Hid (soundB G t l = false) := Lib.hid (by rw [HS.out]; rfl)
          simp only [Option.isSome_none]
          go_wp2
          go_ret
          rw [HN.out]
          exact ⟨rfl, HF.out⟩
      · rename_i a
        have hae : a5 = a := ha5 a rfl
        subst hae
        clear ha5
        simp only [Option.isSome_some]
        by_cases q : a5 = n
        · as_aux_lemma =>
            subst q
            have HN : Hid (soundB G t l = true) := Lib.hid (by rw [HS.out]; exact decide_eq_true rfl)
            go_wp2
            go_ret
            rw [HN.out]
            exact ⟨ret_eq (by simp), HF.out⟩
        · as_aux_lemma =>
            have HN : Hid (soundB G t l = false) := Lib.hid (by rw [HS.out]; exact decide_eq_false (fun e => q (Option.some.inj e)))
            have d1 : ((a5 : Int) == (n : Int)) = false := by rw [beq_eq_false_iff_ne]; omega
            have d2 : (a5 == n) = false := by rw [beq_eq_false_iff_ne]; exact q
            go_wp2
            go_ret
            rw [HN.out]
            exact ⟨ret_eq (by simp), HF.out⟩
end Go.Proofs.YtiklbannoinioaaDoor
namespace Go.Proofs.YtiklbannoinioaaDoor
open Go.ChangeShapes Go.WideShapes Go.RowKit
set_option linter.unusedVariables false
set_option linter.unusedSimpArgs false
set_option maxRecDepth 100000

theorem opens_Ints : Opens Tryd.prog 23 (shL shInt) := opens_slice Tryd.underlying23 (by kernel_rfl) (by decide) (opens_int Tryd.underlying3 (by kernel_rfl))
theorem opens_Prod : Opens Tryd.prog 40 shProd :=
  opens_struct Tryd.underlying40 (by kernel_rfl) (opF_cons rfl (opens_int Tryd.underlying3 (by kernel_rfl)) (opF_cons rfl opens_Ints (opF_one rfl (opens_int Tryd.underlying3 (by kernel_rfl)))))
theorem opens_Prods : Opens Tryd.prog 22 (shL shProd) := opens_slice Tryd.underlying22 (by kernel_rfl) (by decide) opens_Prod
theorem opens_Grammar : Opens Tryd.prog 25 (shP shInt (shP shInt (shP shInt (shP (shL shProd) (shP (shL shInt) (shL shInt)))))) :=
  opens_struct Tryd.underlying25 (by kernel_rfl) (opF_cons rfl (opens_int Tryd.underlying3 (by kernel_rfl)) (opF_cons rfl (opens_int Tryd.underlying3 (by kernel_rfl)) (opF_cons rfl (opens_int Tryd.underlying3 (by kernel_rfl)) (opF_cons rfl opens_Prods (opF_cons rfl opens_Ints (opF_one rfl opens_Ints))))))

/-- A grammar that came in. -/
def IsGrammar (W : World) (v : Value) : Prop := ∃ (G : Gr) (Ap : Option Addr) (Al : Option Addr) (As : Option Addr) (np : Nat) (cp : Nat) (nl : Nat) (cl : Nat) (ns : Nat) (cs : Nat), v = .agg #[.int .i64 G.terms, .int .i64 G.names, .int .i64 G.start, .slice Ap np cp, .slice Al nl cl, .slice As ns cs] ∧ GrIn W W.heap.size G Ap Al As np cp nl cl ns cs
theorem open_IsGrammar {H : Type} {enc : TypeId × Value → H} {W : World} {base : Nat} {r : Reach} {b0 : Nat} {v : Value} {d : DataW H} {p : List MemPlace} {held : Bool}
    (hv : Value.okWide Tryd.prog W r b0 25 v) (h : DataW.Trod enc Tryd.prog W base (fun _ => true) held 25 v d p) : IsGrammar W v := by
  obtain ⟨cs, rfl, hsz⟩ := Go.WideShapes.okWide_struct Tryd.underlying25 hv
  obtain ⟨⟨x, y, z, Q, L, S⟩, c1, d1, e1, h1, c2, d2, e2, h2, c3, d3, e3, h3, c4, d4, e4, h4, c5, c6, e5, h5, h6⟩ := isIn_of opens_Grammar h
  obtain ⟨rfl, _⟩ := h1
  obtain ⟨rfl, _⟩ := h2
  obtain ⟨rfl, _⟩ := h3
  obtain ⟨A4, k4, q4, f4, g4⟩ := shL_form h4
  obtain ⟨A5, k5, q5, f5, g5⟩ := shL_form h5
  obtain ⟨A6, k6, q6, f6, g6⟩ := shL_form h6
  subst q4 q5 q6
  obtain ⟨_, _, m5, r5⟩ := rdI_sh h5
  obtain ⟨_, _, m6, r6⟩ := rdI_sh h6
  refine ⟨⟨x, y, z, Q, L, S⟩, A4, A5, A6, _, k4, _, k5, _, k6, ?_, ⟨h4, r5, rfl, Nat.le_trans f5 g5, r6, rfl, Nat.le_trans f6 g6⟩⟩
  have e' : cs = #[.int .i64 x, .int .i64 y, .int .i64 z, .slice A4 Q.length k4, .slice A5 L.length k5, .slice A6 S.length k6] := by
    apply Array.ext'
    subst e5 e4 e3 e2
    simpa [Value.cells] using e1
  rw [e']


theorem lt_of_cell {w : World} {b o : Nat} {v : Value} (h : w.cell? ⟨b, o, none⟩ = some v) : b < w.heap.size := by
  rcases Nat.lt_or_ge b w.heap.size with q | q
  · exact q
  · simp [World.cell?, Array.getElem?_eq_none q] at h
theorem pow_met {W : World} (h : laidMetH Tryd.prog Rows.forestWholeRow.laid W) : Pow W ∧ 0 < W.heap.size := by
  have h' : laidMet Tryd.prog [("math/bits.deBruijn32tab", Rows.laid_math_bits_deBruijn32tab), ("math/bits.deBruijn64tab", Rows.laid_math_bits_deBruijn64tab), ("internal/strconv.uint64pow10", Rows.laid_internal_strconv_uint64pow10)] W := h
  obtain ⟨ps, ⟨_, _, _, _, _, _, _, _, _, _, ⟨_, _, _, _, _, _, _, _, _, _, ⟨g', t', cs, fuel, p, q, hg', ht', hvar, hd, _, _⟩, _⟩, _⟩, _⟩ := h'
  have hg : Tryd.prog.globalNamed "internal/strconv.uint64pow10" = some 0 := by kernel_rfl
  obtain rfl := Option.some.inj (hg.symm.trans hg')
  have hty : (Tryd.prog.globals[0]?).map (·.type) = some 127 := by kernel_rfl
  obtain rfl := Option.some.inj (hty.symm.trans ht')
  have e : (Rows.laid_internal_strconv_uint64pow10 : DataW Unit) = Lib.tabData .u64 Lib.pow10Tab := by kernel_rfl
  rw [e] at hd
  have hp : Pow W := by
    unfold Pow Lib.TabIs
    rw [hvar, ← Lib.cells_of_tab Tryd.underlying127 Tryd.underlying103 (by kernel_rfl) (by kernel_rfl) hd]
  exact ⟨hp, lt_of_cell (hp.cell hg 0 (by decide))⟩
end Go.Proofs.YtiklbannoinioaaDoor
namespace Go.Proofs.YtiklbannoinioaaDoor
open Go.RowKit BigFrame Go.Maps
set_option linter.unusedVariables false
set_option linter.unusedSimpArgs false
set_option maxRecDepth 100000

theorem elStF : ElTy Tryd.prog 32 9 1 16 (.string { data := #[] }) := ⟨Tryd.underlying32, by kernel_rfl, rfl, by decide⟩
theorem gkeepF {w0 w1 : World} {B g : Nat} {G : Gr} {Ap Al As : Option Addr} {np cp nl cl ns cs : Nat} (gb : GrBox w0 g G Ap Al As np cp nl cl ns cs) (hG : GrIn w0 B G Ap Al As np cp nl cl ns cs) (hb : Below (g + 1) w0 w1) (hB : B ≤ g + 1) : GrBox w1 g G Ap Al As np cp nl cl ns cs ∧ GrIn w1 B G Ap Al As np cp nl cl ns cs :=
  ⟨gb.below hb (Nat.lt_succ_self _), hG.below (hb.mono hB)⟩
def shV (T : List Tr) (i : Nat) : List Value := (T.take i).map fun t => bs (showT t)
set_option maxHeartbeats 8000000 in
theorem whole_law (G : Gr) (Ap Al As : Option Addr) (np cp nl cl ns cs : Nat) (Ai : Option Addr) (ni ci : Nat) (inp : List Int) (n : Int) (w : World) (B : Nat) (hB : B ≤ w.heap.size) (hgl : 0 < B) (hp : Pow w) (hG : GrIn w B G Ap Al As np cp nl cl ns cs) (hli : inp.length = ni) (hm : ni ≤ ci ∧ ci ≤ maxLen) (hri : RdI w B Ai inp) :
    Calls Tryd.prog 3 #[.agg #[.int .i64 G.terms, .int .i64 G.names, .int .i64 G.start, .slice Ap np cp, .slice Al nl cl, .slice As ns cs], .slice Ai ni ci, .int .i64 n] w fun e w' => e = .returned (.bool true) ∧ Below w.heap.size w w' := by
  obtain ⟨hb0, hs0, gb⟩ := gbox w G Ap Al As np cp nl cl ns cs
  have HB0 := Lib.hid hb0; have HS0 := Lib.hid hs0
  have hG0 := hG.below (hb0.mono hB)
  have HP0 := Lib.hid (hp.below hgl (hb0.mono hB))
  have hI0 := hri.below (hb0.mono hB)
  have key : ∀ wk, Below (w.heap.size + 1) (w.alloc (.cells #[.int .i64 G.terms, .int .i64 G.names, .int .i64 G.start, .slice Ap np cp, .slice Al nl cl, .slice As ns cs] 25)) wk → (GrBox wk w.heap.size G Ap Al As np cp nl cl ns cs ∧ GrIn wk B G Ap Al As np cp nl cl ns cs ∧ B ≤ wk.heap.size ∧ w.heap.size + 1 ≤ wk.heap.size) ∧ Pow wk ∧ RdI wk B Ai inp ∧ Below w.heap.size w wk := fun wk h => by
    have := gkeepF gb hG0 h (by omega)
    have hz := h.size
    exact ⟨⟨this.1, this.2, by omega, by omega⟩, HP0.out.below hgl (h.mono (by omega)), hI0.below (h.mono (by omega)), HB0.out.trans (h.mono (Nat.le_succ _))⟩
  have HT := Lib.hid (tells_any (w.alloc (.cells #[.int .i64 G.terms, .int .i64 G.names, .int .i64 G.start, .slice Ap np cp, .slice Al nl cl, .slice As ns cs] 25)) (by rw [hs0]; omega) HP0.out)
  have KEY := Lib.hid key; have HLI := Lib.hid hli; have HM := Lib.hid hm; have HGL := Lib.hid hgl
  rw [hs0] at HT
  clear key hb0 hs0 gb hG0 hI0 hG hp hri hli hm
  go_enter Tryd.func3, Tryd.ntmps3
  go_wp2_with fail
  refine HT.out.mono ?_
  rintro e w1 ⟨rfl, hb1⟩
  obtain ⟨⟨gb1, hG1, hB1, hs1⟩, hp1, hi1, hw1⟩ := KEY.out w1 hb1
  have HC := Lib.hid (small_any G Ap Al As np cp nl cl ns cs w1 B hB1 hG1)
  obtain ⟨c0, c1, c2, c3, c4, c5⟩ := gb1
  have HB1 := Lib.hid hb1; have HS1 := Lib.hid hs1
  clear hb1 hG1 hB1 hs1 hp1 hi1 hw1 HT HP0
  go_wp2_with fail
  refine HC.out.mono ?_
  rintro e w2 ⟨rfl, hb2⟩
  have HB2 := Lib.hid (HB1.out.trans (hb2.mono HS1.out))
  have HSM : Hid (smallB G = true → GSmall G) := Lib.hid (fun h => by
    by_cases q : GSmall G
    · exact q
    · rw [smallB_f q] at h; cases h)
  obtain ⟨⟨gb2, hG2, hB2, hs2⟩, hp2, hi2, hw2⟩ := KEY.out w2 HB2.out
  have HOK := Lib.hid (ok_any G Ap Al As np cp nl cl ns cs w2 B hB2 hG2)
  obtain ⟨c0, c1, c2, c3, c4, c5⟩ := gb2
  have HW2 := Lib.hid hw2; have HS2 := Lib.hid hs2
  clear hb2 hG2 hB2 hs2 hp2 hi2 hw2 HC
  generalize smallB G = sm at *
  by_cases hcond : sm = true ∧ ni ≤ 7 ∧ 1 ≤ n ∧ n ≤ 40
  rotate_left
  · cases sm
    · go_wp2_with fail
      go_ret
      exact ⟨rfl, HW2.out⟩
    · by_cases q1 : 7 < ni
      · have d1 : decide ((7 : Int) < (ni : Int)) = true := decide_eq_true (by omega)
        go_wp2_with fail
        go_ret
        exact ⟨rfl, HW2.out⟩
      · have d1 : decide ((7 : Int) < (ni : Int)) = false := decide_eq_false (by omega)
        by_cases q2 : n < 1
        · have d2 : decide (n < 1) = true := decide_eq_true q2
          go_wp2_with fail
          go_ret
          exact ⟨rfl, HW2.out⟩
        · have d2 : decide (n < 1) = false := decide_eq_false q2
          have d3 : decide (40 < n) = true := decide_eq_true (by
            apply Classical.byContradiction
            intro h
            exact hcond ⟨rfl, by omega, by omega, by omega⟩)
          clear hcond
          go_wp2_with fail
          go_ret
          exact ⟨rfl, HW2.out⟩
  · obtain ⟨rfl, q1, q2, q3⟩ := hcond
    have d1 : decide ((7 : Int) < (ni : Int)) = false := decide_eq_false (by omega)
    have d2 : decide (n < 1) = false := decide_eq_false (by omega)
    have d3 : decide (40 < n) = false := decide_eq_false (by omega)
    have HSG := Lib.hid (HSM.out rfl)
    obtain ⟨nn, rfl⟩ : ∃ nn : Nat, n = (nn : Int) := ⟨n.toNat, by omega⟩
    have q2' : 1 ≤ nn := by omega
    have q3' : nn ≤ 40 := by omega
    go_wp2_with fail
    refine HOK.out.mono ?_
    rintro e w3 ⟨rfl, hb3⟩
    have HB3 := Lib.hid (HB2.out.trans (hb3.mono HS2.out))
    have HW3 := Lib.hid (HW2.out.trans (hb3.mono (by have := HS2.out; omega)))
    clear hb3 HOK c0 c1 c2 c3 c4 c5
    by_cases hk : GOk G
    rotate_left
    · rw [okB_f hk]
      clear hk
      go_wp2_with fail
      go_ret
      exact ⟨rfl, HW3.out⟩
    · rw [okB_t hk]
      have HK := Lib.hid hk
      clear hk
      obtain ⟨⟨gb3, hG3, hB3, hs3⟩, hp3, hi3, hw3⟩ := KEY.out w3 HB3.out
      have hcl := chT_len (G := G) (inp := inp) HK.out HSG.out (by have := HLI.out; omega)
      have HTR := Lib.hid (pTrees_any G Ap Al As np cp nl cl ns cs Ai ni ci nn inp w3 B hB3 hG3 HK.out (by omega) HM.out HLI.out hi3 (by omega) (by omega))
      obtain ⟨c0, c1, c2, c3, c4, c5⟩ := gb3
      clear hG3 hB3 hp3 hi3 hcl
      go_wp2_with fail
      refine HTR.out.mono ?_
      rintro e w4 ⟨v, rfl, hto⟩
      have hb34 := hto.bel
      have HB4 := Lib.hid (HB3.out.trans (hb34.mono hs3))
      have hfi := hto.fi
      obtain ⟨vs, hown, R, hRs, hel⟩ := hto.ex
      obtain ⟨T, hT⟩ : ∃ T, T = tsT G inp nn := ⟨_, rfl⟩
      rw [← hT] at hown hel
      obtain ⟨Av, cv, rfl, hcv1, hcv2, hrd⟩ := own_form hown
      have hli2 := HLI.out
      rw [← hli2] at hfi
      have HFI := Lib.hid hfi
      have htree : ∀ t ∈ T, soundB G t inp = true ∧ szT t ≤ 60000000 ∧ IntT t ∧ PlT t := fun t ht => law_tree (n := nn) HK.out HSG.out (by omega) hfi (by rw [← hT]; exact ht)
      have hnd : T.Nodup := by rw [hT]; exact law_nodup
      have hlen : T.length ≤ nn := by rw [hT]; exact law_len
      have hch := (law_chart HK.out HSG.out (by omega) hfi).1
      have hhas : hasT G inp = decide (0 < T.length) := by rw [hT]; exact law_has hch q2'
      have hzero := law_zero hch
      have hnum : cntS G inp ≠ [109, 97, 110, 121] → T.length ≠ nn → cntS G inp = Lib.decDigits T.length := fun h1 h2 => by rw [hT] at h2 ⊢; exact law_number hch h1 h2
      have hcell : ∀ (j : Nat) (t : Tr), T[j]? = some t → ∃ u b off, Av = some ⟨b, off, none⟩ ∧ b < w4.heap.size ∧ w4.cell? ⟨b, off + j, none⟩ = some u ∧ TrB w4 w4.heap.size u t := fun j t hj => by
        obtain ⟨u, h1, h2⟩ := hel j t hj
        obtain ⟨b, off, e1, e2, e3⟩ := hrd (by intro e; rw [e] at h1; simp at h1)
        exact ⟨u, b, off, e1, e2, e3 j u h1, TrIn.keep (fun _ _ => rfl) hRs h2⟩
      have HCE := Lib.hid hcell; have HTT := Lib.hid htree; have HND := Lib.hid hnd; have HHAS := Lib.hid hhas; have HZE := Lib.hid hzero; have HNUM := Lib.hid hnum
      obtain ⟨⟨gb4, hG4, hB4, hs4⟩, hp4, hi4, hw4⟩ := KEY.out w4 HB4.out
      have HCT := Lib.hid (pCount_any' G Ap Al As np cp nl cl ns cs Ai ni ci inp w4 B hB4 HGL.out hp4 hG4 HK.out q1 HM.out HLI.out hi4 (sm_r HSG.out) HSG.out.p HSG.out.n)
      obtain ⟨c0, c1, c2, c3, c4, c5⟩ := gb4
      have HS4 := Lib.hid hs4
      unfold maxLen at hcv2
      clear hb34 hfi hown hel hrd hRs htree hnd hch hhas hzero hnum hcell hT hG4 hB4 hp4 hi4 hw4 hs4 HTR hto hli2
      go_wp2_with fail
      refine HCT.out.mono ?_
      rintro e w5 ⟨rfl, hb45, -⟩
      have HB45 := Lib.hid hb45
      have HB5 := Lib.hid (HB4.out.trans (hb45.mono HS4.out))
      obtain ⟨⟨gb5, hG5, hB5, hs5⟩, hp5, hi5, hw5⟩ := KEY.out w5 HB5.out
      have HHS := Lib.hid (pHas_any G Ap Al As np cp nl cl ns cs Ai ni ci inp w5 B hB5 hG5 HK.out (by omega) HM.out HLI.out hi5)
      obtain ⟨c0, c1, c2, c3, c4, c5⟩ := gb5
      have HS5 := Lib.hid hs5
      clear hb45 hG5 hB5 hp5 hi5 hw5 hs5 HCT
      go_wp2_with fail
      refine HHS.out.mono ?_
      rintro e w6 ⟨rfl, hb56, -⟩
      have HB46 := Lib.hid (HB45.out.trans (hb56.mono HB45.out.size))
      have HB6 := Lib.hid (HB5.out.trans (hb56.mono HS5.out))
      clear hb56 HHS c0 c1 c2 c3 c4 c5
      generalize hasT G inp = hb at *
      generalize cntS G inp = ct at *
      unfold bs
      obtain ⟨tl, htl⟩ : ∃ tl, tl = T.length := ⟨_, rfl⟩
      rw [← htl] at hcv1 hlen ⊢
      have HTL := Lib.hid htl
      clear htl
      have e1 : decide ((nn : Int) < (tl : Int)) = false := decide_eq_false (by omega)
      have e2 : decide ((0 : Int) < (tl : Int)) = hb := by
        rw [HHAS.out, ← HTL.out]
        by_cases q : 0 < tl
        · rw [decide_eq_true q]; exact decide_eq_true (by omega)
        · rw [decide_eq_false q]; exact decide_eq_false (by omega)
      have e2' : decide (0 < tl) = hb := by rw [HHAS.out, ← HTL.out]
      have e3 : (ct == [48]) = !hb := by
        cases hb with
        | true => exact beq_eq_false_iff_ne.2 (fun h => by have := HZE.out.1 h; cases this)
        | false => exact beq_iff_eq.2 (HZE.out.2 rfl)
      obtain ⟨⟨gb6, hG6, hB6, hs6⟩, hp6, hi6, hw6⟩ := KEY.out w6 HB6.out
      obtain ⟨c0, c1, c2, c3, c4, c5⟩ := gb6
      have HS6 := Lib.hid hs6
      clear hG6 hB6 hs6 hp6 hi6 hw6
      go_wp2_with fail
      go_loopw [12, 13] (fun vsh vi wr => ∃ i : Nat, vi = .int .i64 (i : Int) ∧ i ≤ tl ∧ Hid (wr.ownsRow w6.heap.size 9 1 vsh i (shV T i)) ∧ Hid (Below w6.heap.size w6 wr)) (fun _ vi _ => tl - (intOf vi).toNat)
      case atStart => exact ⟨0, rfl, Nat.zero_le _, Lib.hid (World.ownsRow_nil _ _ _ _), Lib.hid (Below.refl _ _)⟩
      case round =>
        obtain ⟨i, rfl, hil, HOW, HBR⟩ := hrel
        obtain ⟨Ash, csh, rfl, hsh1, hsh2, hshr⟩ := own_form HOW.out
        have HSR := Lib.hid hshr
        unfold maxLen at hsh2
        clear hshr
        by_cases qi : i < tl
        · have dq : decide (i < tl) = true := decide_eq_true qi
          obtain ⟨t, ht⟩ : ∃ t, T[i]? = some t := ⟨_, List.getElem?_eq_getElem (by have := HTL.out; omega)⟩
          obtain ⟨u, tb, to_, rfl, htb, hcl, htr⟩ := HCE.out i t ht
          obtain ⟨hso, hsz, hin, hpl⟩ := HTT.out t (List.mem_of_getElem? ht)
          obtain ⟨wd, hwd⟩ : ∃ wd, wd = wr.drew := ⟨_, rfl⟩
          have hbd : Below wr.heap.size wr wd := by rw [hwd]; exact (Below.refl _ _).drew
          have hb6d : Below w6.heap.size w6 wd := HBR.out.trans (hbd.mono HBR.out.size)
          have hb4d : Below w4.heap.size w4 wd := HB46.out.trans (hb6d.mono HB46.out.size)
          have HBd := Lib.hid (HB6.out.trans (hb6d.mono HS6.out))
          obtain ⟨⟨gbd, hGd, hBd, hsd⟩, hpd, hid, hwd'⟩ := KEY.out wd HBd.out
          obtain ⟨c0, c1, c2, c3, c4, c5⟩ := gbd
          have zt := (hb4d.cell (p := ⟨tb, to_ + i, none⟩) htb).trans hcl
          have htd : TrB wd wd.heap.size u t := TrB.more (TrB.below htr hb4d) hb4d.size
          have HSO := Lib.hid (psound_any G Ap Al As np cp nl cl ns cs wd.heap.size Ai ni ci inp HLI.out (by omega) t hsz u wd (Nat.le_refl _) (hGd.more hBd) htd (hid.more hBd))
          rw [okB_t HK.out, hso, Bool.true_and] at HSO
          have HWD := Lib.hid hwd; have HB4D := Lib.hid hb4d; have HTR := Lib.hid htr; have HCL := Lib.hid hcl; have HSZ := Lib.hid hsz; have HIN := Lib.hid hin; have HTB := Lib.hid htb; have HIT := Lib.hid ht; have HB6D := Lib.hid hb6d; have HOWd := Lib.hid (own_ext HOW.out hbd)
          clear hbd hb6d hb4d hGd hBd hsd hpd hid hwd' htd hso hsz hin hpl htr hwd hcl ht htb
          go_wp2_with fail
          refine wp_region_still_tail 6 (by kernel_rfl) (by kernel_rfl) ?_
          simp only [List.take_succ_cons, List.take_zero, List.drop_succ_cons, List.drop_zero]
          change wpStill _ _ wr.drew (fun a' => wpList _ _ _ _ a' wr.drew) _ _
          rw [← HWD.out]
          refine wpStill_of_quiet _ _ ?_
          repeat (first | go_big_quiet_skip | (go_big_quiet_want; go_big_quiet_op; go_big_quiet_on))
          refine wpQuiet_nil ?_
          go_wp2_with fail
          refine HSO.out.mono ?_
          rintro e w8 ⟨rfl, hb8⟩
          have hb48 := HB4D.out.trans (hb8.mono HB4D.out.size)
          have hb68 := HB6D.out.trans (hb8.mono HB6D.out.size)
          have HB8 := Lib.hid (HB6.out.trans (hb68.mono HS6.out))
          obtain ⟨-, hp8, -, hw8⟩ := KEY.out w8 HB8.out
          have zt8 := (hb48.cell (p := ⟨tb, to_ + i, none⟩) HTB.out).trans HCL.out
          have hgl8 : 0 < w8.heap.size := by have := HGL.out; have := hw8.size; omega
          have HSH := Lib.hid (pshow_any w8.heap.size hgl8 t HSZ.out HIN.out u w8 (Nat.le_refl _) hp8 (TrB.more (TrB.below HTR.out hb48) hb48.size))
          have HB68 := Lib.hid hb68; have HOW8 := Lib.hid (own_ext HOWd.out hb8)
          clear hb48 hb68 hb8 hp8 hw8 hgl8 c0 c1 c2 c3 c4 c5 zt HSO
          unfold bs at HSH
          go_wp2_with fail
          refine HSH.out.mono ?_
          rintro e w9 ⟨rfl, hb9⟩
          have HB69 := Lib.hid (HB68.out.trans (hb9.mono HB68.out.size))
          have HOW9 := Lib.hid (own_ext HOW8.out hb9)
          have hrd9 : Rd w9 w9.heap.size Ash (shV T i) := by
            obtain ⟨A', c', e', _, _, h⟩ := own_form HOW9.out
            simp only [Value.slice.injEq] at e'
            obtain ⟨rfl, _, _⟩ := e'
            exact h
          have HRD9 := Lib.hid hrd9
          clear hb9 zt8 HSH hrd9
          go_wp2_with fail
          go_loopw [16] (fun vk wk => ∃ k : Nat, vk = .int .i64 (k : Int) ∧ k ≤ i ∧ wk = w9) (fun vk _ => i - (intOf vk).toNat)
          case atStart => exact ⟨0, rfl, Nat.zero_le _, rfl⟩
          case round =>
            obtain ⟨k, rfl, hki, hwk⟩ := hrel
            obtain rfl := hwk.symm
            by_cases qk : k < i
            · have dqk : decide (k < i) = true := decide_eq_true qk
              obtain ⟨t', ht'⟩ : ∃ t', T[k]? = some t' := ⟨_, List.getElem?_eq_getElem (by have := HTL.out; omega)⟩
              have hmem : (shV T i)[k]? = some (bs (showT t')) := by
                unfold shV
                rw [List.getElem?_map, List.getElem?_take_of_lt qk, ht']; rfl
              obtain ⟨sb, so, rfl, hsb, hsc⟩ := HRD9.out (by intro e; rw [e] at hmem; simp at hmem)
              have zs := hsc k _ hmem
              have hne : (showT t' == showT t) = false := by
                rw [beq_eq_false_iff_ne]
                intro e
                have e2 := show_one (HTT.out t' (List.mem_of_getElem? ht')).2.2.2 (HTT.out t (List.mem_of_getElem? HIT.out)).2.2.2 e
                subst e2
                have hn := HND.out
                have h1 := (List.getElem?_eq_some_iff.1 ht')
                have h2 := (List.getElem?_eq_some_iff.1 HIT.out)
                obtain ⟨h1a, h1b⟩ := h1
                obtain ⟨h2a, h2b⟩ := h2
                have := (List.pairwise_iff_getElem.1 hn) k i h1a h2a qk
                exact this (h1b.trans h2b.symm)
              unfold bs at zs
              clear ht' hmem hsb hsc
              go_wp2_with fail
              go_roundw
              case rel => exact ⟨k + 1, by simp, by omega, by first | rfl | trivial⟩
              case measure => simp [intOf]; omega
            · have dqk : decide (k < i) = false := decide_eq_false qk
              have HBT : Hid (i + 1 ≤ 140737488355328) := Lib.hid (by omega)
              go_wp2_with (at_builtin; refine wpList_app elStF rfl (.tmp 101) (.tmp 103) rfl w6.heap.size _ i 1 (shV T i) [.string ⟨(showT t).toArray⟩] rfl HOW9.out rfl rfl (by simp [Value.oneCell']) (by omega) (by omega) HB69.out.size ?_; intro v10 w10 hown10 hg10 hat10; obtain ⟨A10, c10, rfl, -, -, -⟩ := own_form hown10; have HOW10 : Hid (w10.ownsRow w6.heap.size 9 1 (.slice A10 (i + 1) c10) (i + 1) (shV T (i + 1))) := Lib.hid (by rw [show shV T (i + 1) = shV T i ++ [.string ⟨(showT t).toArray⟩] from by unfold shV; rw [List.take_add_one, HIT.out, List.map_append]; rfl]; exact hown10); have HB610 : Hid (Below w6.heap.size w6 w10) := Lib.hid (HB69.out.grown hg10 HB69.out.size (fun q e => own_base HOW9.out q e)); clear hown10 hg10 hat10)
              go_roundw
              case rel => exact ⟨_, _, _, ⟨i + 1, rfl, by omega, HOW10⟩, rfl, rfl, by first | rfl | (congr 1; omega)⟩
              case measure => simp [intOf]; omega
        · have dq : decide (i < tl) = false := decide_eq_false qi
          have hBr := HB6.out.trans (HBR.out.mono HS6.out)
          have HWr := Lib.hid (KEY.out wr hBr).2.2.2
          have HNB := Lib.hid (number_any (tl : Int) (by omega) (by omega) wr)
          rw [itoa_nat] at HNB
          unfold bs at HNB
          by_cases qm : ct = [109, 97, 110, 121]
          · have em : (ct == [109, 97, 110, 121]) = true := beq_iff_eq.2 qm
            clear hBr qm
            go_wp2_with fail
            go_ret
            exact ⟨rfl, HWr.out⟩
          · have em : (ct == [109, 97, 110, 121]) = false := beq_eq_false_iff_ne.2 qm
            by_cases qt : tl = nn
            · have et : ((tl : Int) == (nn : Int)) = true := beq_iff_eq.2 (by omega)
              clear hBr qm
              go_wp2_with fail
              go_ret
              exact ⟨rfl, HWr.out⟩
            · have et : ((tl : Int) == (nn : Int)) = false := beq_eq_false_iff_ne.2 (by omega)
              have hcd : ct = Lib.decDigits tl := by rw [HTL.out]; exact HNUM.out qm (by rw [← HTL.out]; exact qt)
              rw [← hcd] at HNB
              have hBn : ∀ wk, Below wr.heap.size wr wk → Below w.heap.size w wk := fun wk h => (KEY.out wk (hBr.trans (h.mono (by have := HBR.out.size; have := HS6.out; omega)))).2.2.2
              have HBN := Lib.hid hBn
              clear hBr qm hcd hBn
              go_wp2_with fail
              refine HNB.out.mono ?_
              rintro e wz ⟨rfl, hbz⟩
              have HWz := Lib.hid (HBN.out wz hbz)
              clear hbz
              go_wp2_with fail
              go_ret
              exact ⟨by simp, HWz.out⟩

theorem walk_ForestWhole (W : World) (hF : Pow W ∧ 0 < W.heap.size) (v0 : Value) (w0 : IsGrammar W v0) (v1 : Value) (w1 : IsInts W v1) (n : Int) (hn : (Lit.int .i64 n).wf = true) :
    Calls Tryd.prog 3 #[v0, v1, .int .i64 n] W fun e W' => e = .returned (.bool true) ∧ Below W.heap.size W W' := by
  obtain ⟨G, Ap, Al, As, np, cp, nl, cl, ns, cs, rfl, hG⟩ := w0
  obtain ⟨A2, n2, c2, l, rfl, hl, h1, h2, hI, _⟩ := w1
  exact whole_law G Ap Al As np cp nl cl ns cs A2 n2 c2 l n W W.heap.size (Nat.le_refl _) hF.2 hF.1 hG hl ⟨h1, h2⟩ hI
end Go.Proofs.YtiklbannoinioaaDoor
