/- What 'laid' gives for the decimal text of an int; grammars and twigs that came in. -/
import Derived.Test.YtinejiodnnjpgaaDoorTrH
import Derived.Test.YtinejiodnnjpgaaDoorTrV
import Derived.Test.YtinejiodnnjpgaaDoorGr
import Derived.Test.YtinejiodnnjpgaaDoorOpen
import Derived.Test.YtinejiodnnjpgaaDoorRows
import Derived.ProofKit
import Derived.LaidMore
import Derived.OpenShut
import Derived.Lib.LaidTab
namespace Go.Proofs.YtinejiodnnjpgaaDoor
open Go.ChangeShapes Go.WideShapes Go.RowKit
set_option linter.unusedVariables false
set_option linter.unusedSimpArgs false
set_option maxRecDepth 100000

theorem opens_Ints : Opens Tryd.prog 32 (shL shInt) := opens_slice Tryd.underlying32 (by kernel_rfl) (by decide) (opens_int Tryd.underlying3 (by kernel_rfl))
theorem opens_Prod : Opens Tryd.prog 63 shProd :=
  opens_struct Tryd.underlying63 (by kernel_rfl) (opF_cons rfl (opens_int Tryd.underlying3 (by kernel_rfl)) (opF_cons rfl opens_Ints (opF_one rfl (opens_int Tryd.underlying3 (by kernel_rfl)))))
theorem opens_Prods : Opens Tryd.prog 31 (shL shProd) := opens_slice Tryd.underlying31 (by kernel_rfl) (by decide) opens_Prod
theorem opens_Grammar : Opens Tryd.prog 34 (shP shInt (shP shInt (shP shInt (shP (shL shProd) (shP (shL shInt) (shL shInt)))))) :=
  opens_struct Tryd.underlying34 (by kernel_rfl) (opF_cons rfl (opens_int Tryd.underlying3 (by kernel_rfl)) (opF_cons rfl (opens_int Tryd.underlying3 (by kernel_rfl)) (opF_cons rfl (opens_int Tryd.underlying3 (by kernel_rfl)) (opF_cons rfl opens_Prods (opF_cons rfl opens_Ints (opF_one rfl opens_Ints))))))

/-- A grammar that came in. -/
def IsGrammar (W : World) (v : Value) : Prop := ∃ (G : Gr) (Ap : Option Addr) (Al : Option Addr) (As : Option Addr) (np : Nat) (cp : Nat) (nl : Nat) (cl : Nat) (ns : Nat) (cs : Nat), v = .agg #[.int .i64 G.terms, .int .i64 G.names, .int .i64 G.start, .slice Ap np cp, .slice Al nl cl, .slice As ns cs] ∧ GrIn W W.heap.size G Ap Al As np cp nl cl ns cs
theorem open_IsGrammar {H : Type} {enc : TypeId × Value → H} {W : World} {base : Nat} {r : Reach} {b0 : Nat} {v : Value} {d : DataW H} {p : List MemPlace} {held : Bool}
    (hv : Value.okWide Tryd.prog W r b0 34 v) (h : DataW.Trod enc Tryd.prog W base (fun _ => true) held 34 v d p) : IsGrammar W v := by
  obtain ⟨cs, rfl, hsz⟩ := Go.WideShapes.okWide_struct Tryd.underlying34 hv
  obtain ⟨⟨x, y, z, Q, L, S⟩, c1, d1, e1, h1, c2, d2, e2, h2, c3, d3, e3, h3, c4, d4, e4, h4, c5, c6, e5, h5, h6⟩ := isIn_of opens_Grammar h
  obtain ⟨rfl, _⟩ := h1
  obtain ⟨rfl, _⟩ := h2
  obtain ⟨rfl, _⟩ := h3
  obtain ⟨A4, k4, q4, f4, g4⟩ := shL_form h4
  obtain ⟨A5, k5, q5, f5, g5⟩ := shL_form h5
  obtain ⟨A6, k6, q6, f6, g6⟩ := shL_form h6
  subst q4 q5 q6
  obtain ⟨_, _, m5, r5⟩ := rdI_sh h5
  obtain ⟨_, _, m6, r6⟩ := rdI_sh h6
  refine ⟨⟨x, y, z, Q, L, S⟩, A4, A5, A6, _, k4, _, k5, _, k6, ?_, ⟨h4, r5, rfl, Nat.le_trans f5 g5, r6, rfl, Nat.le_trans f6 g6⟩⟩
  have e' : cs = #[.int .i64 x, .int .i64 y, .int .i64 z, .slice A4 Q.length k4, .slice A5 L.length k5, .slice A6 S.length k6] := by
    apply Array.ext'
    subst e5 e4 e3 e2
    simpa [Value.cells] using e1
  rw [e']


theorem opensW_Twig : OpensW Tryd.prog 65 shTw :=
  opensW_struct Tryd.underlying65 (by kernel_rfl) (opFW_cons rfl (opens_int Tryd.underlying3 (by kernel_rfl)).w (opFW_cons rfl (opens_int Tryd.underlying3 (by kernel_rfl)).w (opFW_one rfl (opensW_slice (bytes := 8) Tryd.underlying32 (by kernel_rfl) (by decide) (by kernel_rfl) (opens_int Tryd.underlying3 (by kernel_rfl)).w))))
/-- Twigs that came in. -/
def IsTwigs (W : World) (v : Value) : Prop := ∃ A n c Q, v = .slice A n c ∧ RdTw W W.heap.size A n c Q
theorem open_IsTwigs {H : Type} {enc : TypeId × Value → H} {W : World} {base : Nat} {r : Reach} {b0 : Nat} {v : Value} {d : DataW H} {p : List MemPlace} {held : Bool}
    (hv : Value.okWide Tryd.prog W r b0 35 v) (h : DataW.Trod enc Tryd.prog W base (fun _ => true) held 35 v d p) (hw : ∀ n ∈ d.weights Tryd.prog 35, n ≤ reachBytes) : IsTwigs W v := by
  obtain ⟨a, len, cap, rfl⟩ := okWide_slice Tryd.underlying35 hv
  obtain ⟨Q, hQ⟩ := isIn_ofW (opensW_slice (bytes := Tryd.prog.bytesOf 65) Tryd.underlying35 (by kernel_rfl) (by decide) rfl opensW_Twig) h hw
  exact ⟨a, len, cap, Q, rfl, hQ.1⟩
theorem lt_of_cell {w : World} {b o : Nat} {v : Value} (h : w.cell? ⟨b, o, none⟩ = some v) : b < w.heap.size := by
  rcases Nat.lt_or_ge b w.heap.size with q | q
  · exact q
  · simp [World.cell?, Array.getElem?_eq_none q] at h
theorem pow_met {W : World} (h : laidMetH Tryd.prog Rows.treeToldRow.laid W) : Pow W ∧ 8 < W.heap.size := by
  have h' : laidMet Tryd.prog [("math/bits.deBruijn32tab", Rows.laid_math_bits_deBruijn32tab), ("math/bits.deBruijn64tab", Rows.laid_math_bits_deBruijn64tab), ("internal/strconv.uint64pow10", Rows.laid_internal_strconv_uint64pow10)] W := h
  obtain ⟨ps, ⟨_, _, _, _, _, _, _, _, _, _, ⟨_, _, _, _, _, _, _, _, _, _, ⟨g', t', cs, fuel, p, q, hg', ht', hvar, hd, _, _⟩, _⟩, _⟩, _⟩ := h'
  have hg : Tryd.prog.globalNamed "internal/strconv.uint64pow10" = some 8 := by kernel_rfl
  obtain rfl := Option.some.inj (hg.symm.trans hg')
  have hty : (Tryd.prog.globals[8]?).map (·.type) = some 150 := by kernel_rfl
  obtain rfl := Option.some.inj (hty.symm.trans ht')
  have e : (Rows.laid_internal_strconv_uint64pow10 : DataW Unit) = Lib.tabData .u64 Lib.pow10Tab := by kernel_rfl
  rw [e] at hd
  have hp : Pow W := by
    unfold Pow Lib.TabIs
    rw [hvar, ← Lib.cells_of_tab Tryd.underlying150 Tryd.underlying143 (by kernel_rfl) (by kernel_rfl) hd]
  exact ⟨hp, lt_of_cell (hp.cell hg 0 (by decide))⟩
end Go.Proofs.YtinejiodnnjpgaaDoor
