/- What 'laid' gives for the decimal text of an int; grammars and twigs that came in. · What 'laid' gives: the seven errors and the type's handle. -/
import Derived.Test.YtinejiodnnjpgaaDoorQ10
import Derived.Test.YtinejiodnnjpgaaDoorQ30
import Derived.Test.YtinejiodnnjpgaaDoorQ3
import Derived.Test.YtinejiodnnjpgaaDoorQ2
import Derived.Test.YtinejiodnnjpgaaDoorRows
import Derived.ProofKit
import Derived.LaidMore
import Derived.OpenShut
import Derived.Lib.LaidTab
import Derived.Test.YtinejiodnnjpgaaDoorQ14
import Derived.Stop.Joined
import Derived.Stop.LaidTwo
namespace Go.Proofs.YtinejiodnnjpgaaDoor
open Go.ChangeShapes Go.WideShapes Go.RowKit
set_option linter.unusedVariables false
set_option linter.unusedSimpArgs false
set_option maxRecDepth 100000

theorem opens_Ints : Opens Tryd.prog 32 (shL shInt) := opens_slice Tryd.underlying32 (by kernel_rfl) (by decide) (opens_int Tryd.underlying3 (by kernel_rfl))
theorem opens_Prod : Opens Tryd.prog 63 shProd :=
  opens_struct Tryd.underlying63 (by kernel_rfl) (opF_cons rfl (opens_int Tryd.underlying3 (by kernel_rfl)) (opF_cons rfl opens_Ints (opF_one rfl (opens_int Tryd.underlying3 (by kernel_rfl)))))
theorem opens_Prods : Opens Tryd.prog 31 (shL shProd) := opens_slice Tryd.underlying31 (by kernel_rfl) (by decide) opens_Prod
theorem opens_Grammar : Opens Tryd.prog 34 (shP shInt (shP shInt (shP shInt (shP (shL shProd) (shP (shL shInt) (shL shInt)))))) :=
  opens_struct Tryd.underlying34 (by kernel_rfl) (opF_cons rfl (opens_int Tryd.underlying3 (by kernel_rfl)) (opF_cons rfl (opens_int Tryd.underlying3 (by kernel_rfl)) (opF_cons rfl (opens_int Tryd.underlying3 (by kernel_rfl)) (opF_cons rfl opens_Prods (opF_cons rfl opens_Ints (opF_one rfl opens_Ints))))))

/-- A grammar that came in. -/
def IsGrammar (W : World) (v : Value) : Prop := ∃ (G : Gr) (Ap : Option Addr) (Al : Option Addr) (As : Option Addr) (np : Nat) (cp : Nat) (nl : Nat) (cl : Nat) (ns : Nat) (cs : Nat), v = .agg #[.int .i64 G.terms, .int .i64 G.names, .int .i64 G.start, .slice Ap np cp, .slice Al nl cl, .slice As ns cs] ∧ GrIn W W.heap.size G Ap Al As np cp nl cl ns cs
theorem open_IsGrammar {H : Type} {enc : TypeId × Value → H} {W : World} {base : Nat} {r : Reach} {b0 : Nat} {v : Value} {d : DataW H} {p : List MemPlace} {held : Bool}
    (hv : Value.okWide Tryd.prog W r b0 34 v) (h : DataW.Trod enc Tryd.prog W base (fun _ => true) held 34 v d p) : IsGrammar W v := by
  obtain ⟨cs, rfl, hsz⟩ := Go.WideShapes.okWide_struct Tryd.underlying34 hv
  obtain ⟨⟨x, y, z, Q, L, S⟩, c1, d1, e1, h1, c2, d2, e2, h2, c3, d3, e3, h3, c4, d4, e4, h4, c5, c6, e5, h5, h6⟩ := isIn_of opens_Grammar h
  obtain ⟨rfl, _⟩ := h1
  obtain ⟨rfl, _⟩ := h2
  obtain ⟨rfl, _⟩ := h3
  obtain ⟨A4, k4, q4, f4, g4⟩ := shL_form h4
  obtain ⟨A5, k5, q5, f5, g5⟩ := shL_form h5
  obtain ⟨A6, k6, q6, f6, g6⟩ := shL_form h6
  subst q4 q5 q6
  obtain ⟨_, _, m5, r5⟩ := rdI_sh h5
  obtain ⟨_, _, m6, r6⟩ := rdI_sh h6
  refine ⟨⟨x, y, z, Q, L, S⟩, A4, A5, A6, _, k4, _, k5, _, k6, ?_, ⟨h4, r5, rfl, Nat.le_trans f5 g5, r6, rfl, Nat.le_trans f6 g6⟩⟩
  have e' : cs = #[.int .i64 x, .int .i64 y, .int .i64 z, .slice A4 Q.length k4, .slice A5 L.length k5, .slice A6 S.length k6] := by
    apply Array.ext'
    subst e5 e4 e3 e2
    simpa [Value.cells] using e1
  rw [e']


theorem opensW_Twig : OpensW Tryd.prog 65 shTw :=
  opensW_struct Tryd.underlying65 (by kernel_rfl) (opFW_cons rfl (opens_int Tryd.underlying3 (by kernel_rfl)).w (opFW_cons rfl (opens_int Tryd.underlying3 (by kernel_rfl)).w (opFW_one rfl (opensW_slice (bytes := 8) Tryd.underlying32 (by kernel_rfl) (by decide) (by kernel_rfl) (opens_int Tryd.underlying3 (by kernel_rfl)).w))))
/-- Twigs that came in. -/
def IsTwigs (W : World) (v : Value) : Prop := ∃ A n c Q, v = .slice A n c ∧ RdTw W W.heap.size A n c Q
theorem open_IsTwigs {H : Type} {enc : TypeId × Value → H} {W : World} {base : Nat} {r : Reach} {b0 : Nat} {v : Value} {d : DataW H} {p : List MemPlace} {held : Bool}
    (hv : Value.okWide Tryd.prog W r b0 35 v) (h : DataW.Trod enc Tryd.prog W base (fun _ => true) held 35 v d p) (hw : ∀ n ∈ d.weights Tryd.prog 35, n ≤ reachBytes) : IsTwigs W v := by
  obtain ⟨a, len, cap, rfl⟩ := okWide_slice Tryd.underlying35 hv
  obtain ⟨Q, hQ⟩ := isIn_ofW (opensW_slice (bytes := Tryd.prog.bytesOf 65) Tryd.underlying35 (by kernel_rfl) (by decide) rfl opensW_Twig) h hw
  exact ⟨a, len, cap, Q, rfl, hQ.1⟩
theorem lt_of_cell {w : World} {b o : Nat} {v : Value} (h : w.cell? ⟨b, o, none⟩ = some v) : b < w.heap.size := by
  rcases Nat.lt_or_ge b w.heap.size with q | q
  · exact q
  · simp [World.cell?, Array.getElem?_eq_none q] at h
theorem pow_met {W : World} (h : laidMetH Tryd.prog Rows.treeToldRow.laid W) : Pow W ∧ 8 < W.heap.size := by
  have h' : laidMet Tryd.prog [("math/bits.deBruijn32tab", Rows.laid_math_bits_deBruijn32tab), ("math/bits.deBruijn64tab", Rows.laid_math_bits_deBruijn64tab), ("internal/strconv.uint64pow10", Rows.laid_internal_strconv_uint64pow10)] W := h
  obtain ⟨ps, ⟨_, _, _, _, _, _, _, _, _, _, ⟨_, _, _, _, _, _, _, _, _, _, ⟨g', t', cs, fuel, p, q, hg', ht', hvar, hd, _, _⟩, _⟩, _⟩, _⟩ := h'
  have hg : Tryd.prog.globalNamed "internal/strconv.uint64pow10" = some 8 := by kernel_rfl
  obtain rfl := Option.some.inj (hg.symm.trans hg')
  have hty : (Tryd.prog.globals[8]?).map (·.type) = some 150 := by kernel_rfl
  obtain rfl := Option.some.inj (hty.symm.trans ht')
  have e : (Rows.laid_internal_strconv_uint64pow10 : DataW Unit) = Lib.tabData .u64 Lib.pow10Tab := by kernel_rfl
  rw [e] at hd
  have hp : Pow W := by
    unfold Pow Lib.TabIs
    rw [hvar, ← Lib.cells_of_tab Tryd.underlying150 Tryd.underlying143 (by kernel_rfl) (by kernel_rfl) hd]
  exact ⟨hp, lt_of_cell (hp.cell hg 0 (by decide))⟩
end Go.Proofs.YtinejiodnnjpgaaDoor
namespace Go.Proofs.YtinejiodnnjpgaaDoor
open Go.ChangeShapes Go.WideShapes Go.RowKit
set_option linter.unusedVariables false
set_option linter.unusedSimpArgs false
set_option maxRecDepth 100000

def errD (t : List UInt8) : DataW Unit := .iface "*errors.errorString" (.ptr (.agg [.lit (.string t)]))
theorem lt_of_cellE {w : World} {b o : Nat} {v : Value} (h : w.cell? ⟨b, o, none⟩ = some v) : b < w.heap.size := by
  rcases Nat.lt_or_ge b w.heap.size with q | q
  · exact q
  · simp [World.cell?, Array.getElem?_eq_none q] at h
theorem starE : "*errors.errorString" = "*" ++ "errors.errorString" := by decide
theorem rowE (u : TypeId) (h : Tryd.prog.typeName? 3 u = some "*errors.errorString") : u = 158 :=
  typeName_ptr_named (nm := "errors.errorString") (by rw [← starE]; kernel_rfl) (by kernel_rfl) (by decide) u (by rw [← starE]; exact h)

theorem errs_of {W : World} : ∀ (L : List (String × List UInt8 × Nat)) (ps : List MemPlace), (∀ x ∈ L, Tryd.prog.globalNamed x.1 = some x.2.2 ∧ (Tryd.prog.globals[x.2.2]?).map (·.type) = some 23) →
    DataW.LaidVars Tryd.prog W (L.map fun x => (x.1, errD x.2.1)) ps → ps.Nodup →
    (∀ b off, MemPlace.cell b off ∈ ps → (∃ c t, W.heap[b]? = some (.cells c t (0, 0))) ∧ ∀ u v, W.cell? ⟨b, off, none⟩ = some (.iface u v) → Value.okWide Tryd.prog W .any 0 u v) →
    ∃ E : List Addr, E.length = L.length ∧ E.Nodup ∧ (∀ a ∈ E, MemPlace.cell a.block a.off ∈ ps) ∧
      ∀ (i : Nat) (x : String × List UInt8 × Nat) (a : Addr), L[i]? = some x → E[i]? = some a → W.cell? ⟨x.2.2, 0, none⟩ = some (ew a) ∧ ∃ c t, W.heap[a.block]? = some (.cells c t (0, 0))
  | [], ps, _, _, _, _ => ⟨[], rfl, List.nodup_nil, fun a h => (by cases h), fun i x a h => (by simp at h)⟩
  | x :: L, ps, hL, h, hnd, hr => by
    obtain ⟨g0, t0, cs0, f0, p0, q0, hg0, ht0, hv0, hd0, hrest, e0⟩ := h
    obtain ⟨hg, ht⟩ := hL x (List.mem_cons_self ..)
    obtain rfl := Option.some.inj (hg.symm.trans hg0)
    obtain rfl := Option.some.inj (ht.symm.trans ht0)
    subst e0
    have hsub : (q0).Sublist (MemPlace.row ⟨x.2.2, 0, none⟩ cs0.size ++ p0 ++ q0) := List.sublist_append_right _ _
    obtain ⟨E, h1, h2, h3, h4⟩ := errs_of L q0 (fun y hy => hL y (List.mem_cons_of_mem _ hy)) hrest (List.Nodup.sublist hsub hnd) (fun b off hm => hr b off (List.mem_append_right _ hm))
    obtain ⟨l0⟩ := cs0
    have ok0 : ∀ u v, l0 = [.iface u v] → Value.okWide Tryd.prog W .any 0 u v := fun u v e => by
      subst e
      exact (hr x.2.2 0 (by simp [MemPlace.row])).2 u v (by simpa using World.var?_cell hg hv0 0)
    obtain ⟨a, s, rfl, hc, hs, hz, rfl⟩ := errorString_of_trod Tryd.underlying23 rowE Tryd.underlying158 Tryd.underlying179 rfl rfl Tryd.underlying9 (by kernel_rfl) (by kernel_rfl) hd0 ok0
    have hma : MemPlace.cell a.block a.off ∈ MemPlace.row a 1 := by simp [MemPlace.row]
    refine ⟨a :: E, by simp [h1], List.nodup_cons.2 ⟨fun hm => ?_, h2⟩, fun b hb => ?_, fun i y b hy hb => ?_⟩
    · have := h3 a hm
      rw [List.append_assoc, List.nodup_append] at hnd
      have h5 := (List.nodup_append.1 hnd.2.1).2.2 _ hma _ this
      exact h5 rfl
    · rcases List.mem_cons.1 hb with rfl | q
      · exact List.mem_append_left _ (List.mem_append_right _ hma)
      · exact List.mem_append_right _ (h3 b q)
    · cases i with
      | zero =>
        simp at hy hb
        subst hy
        subst hb
        refine ⟨?_, (hr a.block a.off (List.mem_append_left _ (List.mem_append_right _ hma))).1⟩
        have := World.var?_cell hg hv0 0
        simpa using this
      | succ i => exact h4 i y b (by simpa using hy) (by simpa using hb)

/-- The list that the cards bear. -/
def sevenL : List (String × List UInt8 × Nat) := [("grammarsmith/api.ErrSyntax", [110, 111, 116, 32, 111, 102, 32, 116, 104, 101, 32, 102, 111, 114, 109, 32, 97, 115, 107, 101, 100], 0), ("grammarsmith/api.ErrBound", [109, 111, 114, 101, 32, 116, 104, 97, 110, 32, 109, 97, 121, 32, 98, 101], 1), ("grammarsmith/api.ErrRule", [97, 32, 114, 117, 108, 101, 32, 116, 104, 97, 116, 32, 99, 97, 110, 32, 110, 111, 116, 32, 115, 116, 97, 110, 100], 2), ("grammarsmith/api.ErrName", [97, 32, 110, 97, 109, 101, 32, 116, 104, 97, 116, 32, 105, 115, 32, 110, 111, 110, 101, 44, 32, 111, 114, 32, 105, 115, 32, 116, 104, 101, 114, 101, 32, 97, 108, 114, 101, 97, 100, 121], 3), ("grammarsmith/api.ErrType", [97, 32, 118, 97, 108, 117, 101, 32, 111, 102, 32, 97, 110, 111, 116, 104, 101, 114, 32, 116, 121, 112, 101], 4), ("grammarsmith/api.ErrConflict", [97, 110, 32, 97, 99, 116, 105, 111, 110, 32, 105, 115, 32, 110, 111, 116, 32, 100, 101, 99, 105, 100, 101, 100], 5), ("grammarsmith/api.ErrEnd", [110, 111, 32, 115, 101, 110, 116, 101, 110, 99, 101], 6)]
theorem errs_met {W : World} (h : laidMetH Tryd.prog Rows.namesRow.laid W) : ∃ E, ErW W W.heap.size E := by
  have h' : laidMet Tryd.prog (sevenL.map fun x => (x.1, errD x.2.1)) W ∧ handlesMet Tryd.prog [("errors.errorType", Rows.laid_errors_errorType)] W := h
  obtain ⟨⟨ps, hv, hnd, hr⟩, hh⟩ := h'
  obtain ⟨E, h1, h2, h3, h4⟩ := errs_of sevenL ps (fun x hx => by
    simp only [sevenL, List.mem_cons, List.not_mem_nil, or_false] at hx
    rcases hx with rfl | rfl | rfl | rfl | rfl | rfl | rfl <;> exact ⟨by kernel_rfl, by kernel_rfl⟩) hv hnd hr
  obtain ⟨name, u, ty, e1, e2, e3, e4, e5⟩ := hh _ (List.mem_singleton.2 rfl)
  have en : name = [101, 114, 114, 111, 114] := (Option.some.inj e1).symm
  subst en
  have rt : (Tryd.prog.cutTypes.find? (·.1 == "internal/reflectlite.rtype")).map (·.2) = some 126 := by kernel_rfl
  have et : Tryd.prog.globalNamed "errors.errorType" = some 7 := by kernel_rfl
  have hsz : Tryd.prog.types.size = 191 := by kernel_rfl
  have oneRow : ((List.range 191).filter fun t => Tryd.prog.rowNamed t [101, 114, 114, 111, 114]) = [23] := by kernel_rfl
  obtain rfl := Option.some.inj (rt.symm.trans e2)
  have hm : ty ∈ (List.range 191).filter fun t => Tryd.prog.rowNamed t [101, 114, 114, 111, 114] := List.mem_filter.2 ⟨List.mem_range.2 (by rw [← hsz]; exact e3), e4⟩
  rw [oneRow] at hm
  obtain rfl := List.mem_singleton.1 hm
  have ht : typeHandle Tryd.prog 23 = .pointer (some ⟨11, 23, none⟩) := by kernel_rfl
  rw [ht] at e5
  have hcell : W.cell? ⟨7, 0, none⟩ = some handleE := by simpa using World.var?_cell et e5 0
  have hl : E.length = 7 := h1
  have key : ∀ i, i < 7 → ∃ x a, sevenL[i]? = some x ∧ E[i]? = some a ∧ E.getD i default = a ∧ x.2.2 = evar i := fun i hi => by
    have hx : i < sevenL.length := hi
    have ha : i < E.length := by omega
    refine ⟨sevenL[i], E[i], List.getElem?_eq_getElem hx, List.getElem?_eq_getElem ha, by simp [ha], ?_⟩
    match i, hi with
    | 0, _ => rfl
    | 1, _ => rfl
    | 2, _ => rfl
    | 3, _ => rfl
    | 4, _ => rfl
    | 5, _ => rfl
    | 6, _ => rfl
  refine ⟨fun i => E.getD i default, fun i hi => ?_, fun i hi => ?_, fun i j hi hj hne e => ?_, hcell, fun i hi => ?_, ?_⟩
  · obtain ⟨x, a, k1, k2, k3, k4⟩ := key i hi
    have := (h4 i x a k1 k2).1
    rw [k4] at this
    rw [k3]; exact this
  · obtain ⟨x, a, k1, k2, k3, k4⟩ := key i hi
    obtain ⟨c, t, k5⟩ := (h4 i x a k1 k2).2
    rw [k3]
    exact ⟨(Array.getElem?_eq_some_iff.1 k5).1, c, t, k5⟩
  · obtain ⟨x, a, k1, k2, k3, k4⟩ := key i hi
    obtain ⟨y, b, l1, l2, l3, l4⟩ := key j hj
    rw [k3, l3] at e
    subst e
    exact hne ((List.getElem?_inj (show i < E.length by omega) h2).1 (k2.trans l2.symm))
  · obtain ⟨x, a, k1, k2, k3, k4⟩ := key i hi
    have := (h4 i x a k1 k2).1
    rw [k4] at this
    exact lt_of_cellE this
  · exact lt_of_cellE hcell
end Go.Proofs.YtinejiodnnjpgaaDoor
