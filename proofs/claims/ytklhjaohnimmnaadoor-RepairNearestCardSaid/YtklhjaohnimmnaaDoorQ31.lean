/- The costs of edits that came in; fewCosts. · What 'laid' gives: the seven errors and the type's handle. -/
import Derived.Test.YtklhjaohnimmnaaDoorQ8
import Derived.Test.YtklhjaohnimmnaaDoorQ2
import Derived.Test.YtklhjaohnimmnaaDoorQ7
import Derived.Test.YtklhjaohnimmnaaDoorQ12
import Derived.Test.YtklhjaohnimmnaaDoorQ24
import Derived.Test.YtklhjaohnimmnaaDoorRows
import Derived.ProofKit
import Derived.LaidMore
import Derived.OpenShut
import Derived.Stop.Joined
import Derived.Stop.LaidTwo
namespace Go.Proofs.YtklhjaohnimmnaaDoor
open Go.RowKit BigFrame
set_option linter.unusedVariables false
set_option linter.unusedSimpArgs false
set_option maxRecDepth 100000

theorem opens_Ints : Opens Tryd.prog 23 (shL shInt) := opens_slice Tryd.underlying23 (by kernel_rfl) (by decide) (opens_int Tryd.underlying3 (by kernel_rfl))
theorem opens_Prod : Opens Tryd.prog 41 shProd :=
  opens_struct Tryd.underlying41 (by kernel_rfl) (opF_cons rfl (opens_int Tryd.underlying3 (by kernel_rfl)) (opF_cons rfl opens_Ints (opF_one rfl (opens_int Tryd.underlying3 (by kernel_rfl)))))
theorem opens_Prods : Opens Tryd.prog 22 (shL shProd) := opens_slice Tryd.underlying22 (by kernel_rfl) (by decide) opens_Prod
theorem opens_Grammar : Opens Tryd.prog 25 (shP shInt (shP shInt (shP shInt (shP (shL shProd) (shP (shL shInt) (shL shInt)))))) :=
  opens_struct Tryd.underlying25 (by kernel_rfl) (opF_cons rfl (opens_int Tryd.underlying3 (by kernel_rfl)) (opF_cons rfl (opens_int Tryd.underlying3 (by kernel_rfl)) (opF_cons rfl (opens_int Tryd.underlying3 (by kernel_rfl)) (opF_cons rfl opens_Prods (opF_cons rfl opens_Ints (opF_one rfl opens_Ints))))))

/-- A grammar that came in. -/
def IsGrammar (W : World) (v : Value) : Prop := ∃ (G : Gr) (Ap : Option Addr) (Al : Option Addr) (As : Option Addr) (np : Nat) (cp : Nat) (nl : Nat) (cl : Nat) (ns : Nat) (cs : Nat), v = .agg #[.int .i64 G.terms, .int .i64 G.names, .int .i64 G.start, .slice Ap np cp, .slice Al nl cl, .slice As ns cs] ∧ GrIn W W.heap.size G Ap Al As np cp nl cl ns cs
theorem open_IsGrammar {H : Type} {enc : TypeId × Value → H} {W : World} {base : Nat} {r : Reach} {b0 : Nat} {v : Value} {d : DataW H} {p : List MemPlace} {held : Bool}
    (hv : Value.okWide Tryd.prog W r b0 25 v) (h : DataW.Trod enc Tryd.prog W base (fun _ => true) held 25 v d p) : IsGrammar W v := by
  obtain ⟨cs, rfl, hsz⟩ := Go.WideShapes.okWide_struct Tryd.underlying25 hv
  obtain ⟨⟨x, y, z, Q, L, S⟩, c1, d1, e1, h1, c2, d2, e2, h2, c3, d3, e3, h3, c4, d4, e4, h4, c5, c6, e5, h5, h6⟩ := isIn_of opens_Grammar h
  obtain ⟨rfl, _⟩ := h1
  obtain ⟨rfl, _⟩ := h2
  obtain ⟨rfl, _⟩ := h3
  obtain ⟨A4, k4, q4, f4, g4⟩ := shL_form h4
  obtain ⟨A5, k5, q5, f5, g5⟩ := shL_form h5
  obtain ⟨A6, k6, q6, f6, g6⟩ := shL_form h6
  subst q4 q5 q6
  obtain ⟨_, _, m5, r5⟩ := rdI_sh h5
  obtain ⟨_, _, m6, r6⟩ := rdI_sh h6
  refine ⟨⟨x, y, z, Q, L, S⟩, A4, A5, A6, _, k4, _, k5, _, k6, ?_, ⟨h4, r5, rfl, Nat.le_trans f5 g5, r6, rfl, Nat.le_trans f6 g6⟩⟩
  have e' : cs = #[.int .i64 x, .int .i64 y, .int .i64 z, .slice A4 Q.length k4, .slice A5 L.length k5, .slice A6 S.length k6] := by
    apply Array.ext'
    subst e5 e4 e3 e2
    simpa [Value.cells] using e1
  rw [e']
theorem opens_Costs : Opens Tryd.prog 27 (shP (shL shInt) (shL shInt)) :=
  opens_struct Tryd.underlying27 (by kernel_rfl) (opF_cons rfl opens_Ints (opF_one rfl opens_Ints))

/-- The costs that came in. -/
def IsCosts (W : World) (v : Value) : Prop := ∃ A1 c1 n1 A2 c2 n2 P L, v = .agg #[.slice A1 n1 c1, .slice A2 n2 c2] ∧ List.length P = n1 ∧ n1 ≤ maxLen ∧ RdI W W.heap.size A1 P ∧ List.length L = n2 ∧ n2 ≤ maxLen ∧ RdI W W.heap.size A2 L
theorem open_IsCosts {H : Type} {enc : TypeId × Value → H} {W : World} {base : Nat} {r : Reach} {b0 : Nat} {v : Value} {d : DataW H} {p : List MemPlace} {held : Bool}
    (hv : Value.okWide Tryd.prog W r b0 27 v) (h : DataW.Trod enc Tryd.prog W base (fun _ => true) held 27 v d p) : IsCosts W v := by
  obtain ⟨cs, rfl, hsz⟩ := Go.WideShapes.okWide_struct Tryd.underlying27 hv
  obtain ⟨⟨P, L⟩, c, d, e, h1, h2⟩ := isIn_of opens_Costs h
  obtain ⟨A1, c1, e1, f1, g1⟩ := shL_form h1
  obtain ⟨A2, c2, e2, f2, g2⟩ := shL_form h2
  subst e1 e2
  have e' : cs = #[.slice A1 P.length c1, .slice A2 L.length c2] := by
    apply Array.ext'
    simpa [Value.cells] using e
  subst e'
  obtain ⟨_, _, _, r1⟩ := rdI_sh h1
  obtain ⟨_, _, _, r2⟩ := rdI_sh h2
  exact ⟨A1, c1, _, A2, c2, _, P, L, rfl, rfl, Nat.le_trans f1 g1, r1, rfl, Nat.le_trans f2 g2, r2⟩

theorem fewCosts_any (A1 A2 : Option Addr) (n1 c1 n2 c2 : Nat) (w : World) (m1 : n1 ≤ maxLen) (m2 : n2 ≤ maxLen) :
    Calls Tryd.prog 5 #[.agg #[.slice A1 n1 c1, .slice A2 n2 c2]] w fun e w' => e = .returned (.bool (decide (n1 ≤ 10 ∧ n2 ≤ 10))) ∧ Below w.heap.size w w' := by
  unfold maxLen at m1 m2
  have hb0 : Below w.heap.size w (w.alloc (.cells #[.slice A1 n1 c1, .slice A2 n2 c2] 27)) := (Below.refl _ _).alloc (Nat.le_refl _) _
  by_cases h1 : n1 ≤ 10
  · have d1 : decide ((n1 : Int) ≤ 10) = true := decide_eq_true (by omega)
    by_cases h2 : n2 ≤ 10
    · have d2 : decide ((n2 : Int) ≤ 10) = true := decide_eq_true (by omega)
      have hf := Lib.hid (decide_eq_true (And.intro h1 h2))
      go_enter Tryd.func5, Tryd.ntmps5
      go_wp2
      go_ret
      exact ⟨ret_eq (by rw [hf.out]; rfl), hb0⟩
    · have d2 : decide ((n2 : Int) ≤ 10) = false := decide_eq_false (by omega)
      have hf := Lib.hid (decide_eq_false (show ¬ (n1 ≤ 10 ∧ n2 ≤ 10) by omega))
      go_enter Tryd.func5, Tryd.ntmps5
      go_wp2
      go_ret
      exact ⟨ret_eq (by rw [hf.out]; rfl), hb0⟩
  · have d1 : decide ((n1 : Int) ≤ 10) = false := decide_eq_false (by omega)
    have hf := Lib.hid (decide_eq_false (show ¬ (n1 ≤ 10 ∧ n2 ≤ 10) by omega))
    go_enter Tryd.func5, Tryd.ntmps5
    go_wp2
    go_ret
    exact ⟨ret_eq (by rw [hf.out]; rfl), hb0⟩

end Go.Proofs.YtklhjaohnimmnaaDoor
namespace Go.Proofs.YtklhjaohnimmnaaDoor
open Go.ChangeShapes Go.WideShapes Go.RowKit
set_option linter.unusedVariables false
set_option linter.unusedSimpArgs false
set_option maxRecDepth 100000

def errD (t : List UInt8) : DataW Unit := .iface "*errors.errorString" (.ptr (.agg [.lit (.string t)]))
theorem lt_of_cellE {w : World} {b o : Nat} {v : Value} (h : w.cell? ⟨b, o, none⟩ = some v) : b < w.heap.size := by
  rcases Nat.lt_or_ge b w.heap.size with q | q
  · exact q
  · simp [World.cell?, Array.getElem?_eq_none q] at h
theorem starE : "*errors.errorString" = "*" ++ "errors.errorString" := by decide
theorem rowE (u : TypeId) (h : Tryd.prog.typeName? 3 u = some "*errors.errorString") : u = 115 :=
  typeName_ptr_named (nm := "errors.errorString") (by rw [← starE]; kernel_rfl) (by kernel_rfl) (by decide) u (by rw [← starE]; exact h)

theorem errs_of {W : World} : ∀ (L : List (String × List UInt8 × Nat)) (ps : List MemPlace), (∀ x ∈ L, Tryd.prog.globalNamed x.1 = some x.2.2 ∧ (Tryd.prog.globals[x.2.2]?).map (·.type) = some 31) →
    DataW.LaidVars Tryd.prog W (L.map fun x => (x.1, errD x.2.1)) ps → ps.Nodup →
    (∀ b off, MemPlace.cell b off ∈ ps → (∃ c t, W.heap[b]? = some (.cells c t (0, 0))) ∧ ∀ u v, W.cell? ⟨b, off, none⟩ = some (.iface u v) → Value.okWide Tryd.prog W .any 0 u v) →
    ∃ E : List Addr, E.length = L.length ∧ E.Nodup ∧ (∀ a ∈ E, MemPlace.cell a.block a.off ∈ ps) ∧
      ∀ (i : Nat) (x : String × List UInt8 × Nat) (a : Addr), L[i]? = some x → E[i]? = some a → W.cell? ⟨x.2.2, 0, none⟩ = some (ew a) ∧ ∃ c t, W.heap[a.block]? = some (.cells c t (0, 0))
  | [], ps, _, _, _, _ => ⟨[], rfl, List.nodup_nil, fun a h => (by cases h), fun i x a h => (by simp at h)⟩
  | x :: L, ps, hL, h, hnd, hr => by
    obtain ⟨g0, t0, cs0, f0, p0, q0, hg0, ht0, hv0, hd0, hrest, e0⟩ := h
    obtain ⟨hg, ht⟩ := hL x (List.mem_cons_self ..)
    obtain rfl := Option.some.inj (hg.symm.trans hg0)
    obtain rfl := Option.some.inj (ht.symm.trans ht0)
    subst e0
    have hsub : (q0).Sublist (MemPlace.row ⟨x.2.2, 0, none⟩ cs0.size ++ p0 ++ q0) := List.sublist_append_right _ _
    obtain ⟨E, h1, h2, h3, h4⟩ := errs_of L q0 (fun y hy => hL y (List.mem_cons_of_mem _ hy)) hrest (List.Nodup.sublist hsub hnd) (fun b off hm => hr b off (List.mem_append_right _ hm))
    obtain ⟨l0⟩ := cs0
    have ok0 : ∀ u v, l0 = [.iface u v] → Value.okWide Tryd.prog W .any 0 u v := fun u v e => by
      subst e
      exact (hr x.2.2 0 (by simp [MemPlace.row])).2 u v (by simpa using World.var?_cell hg hv0 0)
    obtain ⟨a, s, rfl, hc, hs, hz, rfl⟩ := errorString_of_trod Tryd.underlying31 rowE Tryd.underlying115 Tryd.underlying137 rfl rfl Tryd.underlying9 (by kernel_rfl) (by kernel_rfl) hd0 ok0
    have hma : MemPlace.cell a.block a.off ∈ MemPlace.row a 1 := by simp [MemPlace.row]
    refine ⟨a :: E, by simp [h1], List.nodup_cons.2 ⟨fun hm => ?_, h2⟩, fun b hb => ?_, fun i y b hy hb => ?_⟩
    · have := h3 a hm
      rw [List.append_assoc, List.nodup_append] at hnd
      have h5 := (List.nodup_append.1 hnd.2.1).2.2 _ hma _ this
      exact h5 rfl
    · rcases List.mem_cons.1 hb with rfl | q
      · exact List.mem_append_left _ (List.mem_append_right _ hma)
      · exact List.mem_append_right _ (h3 b q)
    · cases i with
      | zero =>
        simp at hy hb
        subst hy
        subst hb
        refine ⟨?_, (hr a.block a.off (List.mem_append_left _ (List.mem_append_right _ hma))).1⟩
        have := World.var?_cell hg hv0 0
        simpa using this
      | succ i => exact h4 i y b (by simpa using hy) (by simpa using hb)

/-- The list that the cards bear. -/
def sevenL : List (String × List UInt8 × Nat) := [("grammarsmith/api.ErrSyntax", [110, 111, 116, 32, 111, 102, 32, 116, 104, 101, 32, 102, 111, 114, 109, 32, 97, 115, 107, 101, 100], 0), ("grammarsmith/api.ErrBound", [109, 111, 114, 101, 32, 116, 104, 97, 110, 32, 109, 97, 121, 32, 98, 101], 1), ("grammarsmith/api.ErrRule", [97, 32, 114, 117, 108, 101, 32, 116, 104, 97, 116, 32, 99, 97, 110, 32, 110, 111, 116, 32, 115, 116, 97, 110, 100], 2), ("grammarsmith/api.ErrName", [97, 32, 110, 97, 109, 101, 32, 116, 104, 97, 116, 32, 105, 115, 32, 110, 111, 110, 101, 44, 32, 111, 114, 32, 105, 115, 32, 116, 104, 101, 114, 101, 32, 97, 108, 114, 101, 97, 100, 121], 3), ("grammarsmith/api.ErrType", [97, 32, 118, 97, 108, 117, 101, 32, 111, 102, 32, 97, 110, 111, 116, 104, 101, 114, 32, 116, 121, 112, 101], 4), ("grammarsmith/api.ErrConflict", [97, 110, 32, 97, 99, 116, 105, 111, 110, 32, 105, 115, 32, 110, 111, 116, 32, 100, 101, 99, 105, 100, 101, 100], 5), ("grammarsmith/api.ErrEnd", [110, 111, 32, 115, 101, 110, 116, 101, 110, 99, 101], 6)]
theorem errs_met {W : World} (h : laidMetH Tryd.prog Rows.repairNearestRow.laid W) : ∃ E, ErW W W.heap.size E := by
  have h' : laidMet Tryd.prog (sevenL.map fun x => (x.1, errD x.2.1)) W ∧ handlesMet Tryd.prog [("errors.errorType", Rows.laid_errors_errorType)] W := h
  obtain ⟨⟨ps, hv, hnd, hr⟩, hh⟩ := h'
  obtain ⟨E, h1, h2, h3, h4⟩ := errs_of sevenL ps (fun x hx => by
    simp only [sevenL, List.mem_cons, List.not_mem_nil, or_false] at hx
    rcases hx with rfl | rfl | rfl | rfl | rfl | rfl | rfl <;> exact ⟨by kernel_rfl, by kernel_rfl⟩) hv hnd hr
  obtain ⟨name, u, ty, e1, e2, e3, e4, e5⟩ := hh _ (List.mem_singleton.2 rfl)
  have en : name = [101, 114, 114, 111, 114] := (Option.some.inj e1).symm
  subst en
  have rt : (Tryd.prog.cutTypes.find? (·.1 == "internal/reflectlite.rtype")).map (·.2) = some 99 := by kernel_rfl
  have et : Tryd.prog.globalNamed "errors.errorType" = some 7 := by kernel_rfl
  have hsz : Tryd.prog.types.size = 149 := by kernel_rfl
  have oneRow : ((List.range 149).filter fun t => Tryd.prog.rowNamed t [101, 114, 114, 111, 114]) = [31] := by kernel_rfl
  obtain rfl := Option.some.inj (rt.symm.trans e2)
  have hm : ty ∈ (List.range 149).filter fun t => Tryd.prog.rowNamed t [101, 114, 114, 111, 114] := List.mem_filter.2 ⟨List.mem_range.2 (by rw [← hsz]; exact e3), e4⟩
  rw [oneRow] at hm
  obtain rfl := List.mem_singleton.1 hm
  have ht : typeHandle Tryd.prog 31 = .pointer (some ⟨8, 31, none⟩) := by kernel_rfl
  rw [ht] at e5
  have hcell : W.cell? ⟨7, 0, none⟩ = some handleE := by simpa using World.var?_cell et e5 0
  have hl : E.length = 7 := h1
  have key : ∀ i, i < 7 → ∃ x a, sevenL[i]? = some x ∧ E[i]? = some a ∧ E.getD i default = a ∧ x.2.2 = evar i := fun i hi => by
    have hx : i < sevenL.length := hi
    have ha : i < E.length := by omega
    refine ⟨sevenL[i], E[i], List.getElem?_eq_getElem hx, List.getElem?_eq_getElem ha, by simp [ha], ?_⟩
    match i, hi with
    | 0, _ => rfl
    | 1, _ => rfl
    | 2, _ => rfl
    | 3, _ => rfl
    | 4, _ => rfl
    | 5, _ => rfl
    | 6, _ => rfl
  refine ⟨fun i => E.getD i default, fun i hi => ?_, fun i hi => ?_, fun i j hi hj hne e => ?_, hcell, fun i hi => ?_, ?_⟩
  · obtain ⟨x, a, k1, k2, k3, k4⟩ := key i hi
    have := (h4 i x a k1 k2).1
    rw [k4] at this
    rw [k3]; exact this
  · obtain ⟨x, a, k1, k2, k3, k4⟩ := key i hi
    obtain ⟨c, t, k5⟩ := (h4 i x a k1 k2).2
    rw [k3]
    exact ⟨(Array.getElem?_eq_some_iff.1 k5).1, c, t, k5⟩
  · obtain ⟨x, a, k1, k2, k3, k4⟩ := key i hi
    obtain ⟨y, b, l1, l2, l3, l4⟩ := key j hj
    rw [k3, l3] at e
    subst e
    exact hne ((List.getElem?_inj (show i < E.length by omega) h2).1 (k2.trans l2.symm))
  · obtain ⟨x, a, k1, k2, k3, k4⟩ := key i hi
    have := (h4 i x a k1 k2).1
    rw [k4] at this
    exact lt_of_cellE this
  · exact lt_of_cellE hcell
end Go.Proofs.YtklhjaohnimmnaaDoor
