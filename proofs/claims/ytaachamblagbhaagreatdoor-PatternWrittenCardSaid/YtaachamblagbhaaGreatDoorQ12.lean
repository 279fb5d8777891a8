/- What 'laid' gives PatternWritten: the seven errors, the type's handle, the table of math/bits. · The law's smallTree: whatever it answers. · A region that draws its order: operations ahead that touch no memory and that nobody may wait for, then still ones, then a tail in one order (a call that makes memory, an address, a store). -/
import Derived.Test.YtaachamblagbhaaGreatDoorQ6
import Derived.Test.YtaachamblagbhaaGreatDoorRows
import Derived.ProofKit
import Derived.LaidMore
import Derived.OpenShut
import Derived.Stop.Joined
import Derived.Stop.LaidTwo
import Derived.Lib.LaidTab
import Derived.Test.YtaachamblagbhaaGreatDoorQ11
import Derived.Test.YtaachamblagbhaaGreatDoorQ5
import Derived.Test.YtaachamblagbhaaGreatDoorQ3
import Derived.StillTailTactics
import Derived.BigQuiet
import Derived.Test.YtaachamblagbhaaGreatDoorQ4
namespace Go.Proofs.YtaachamblagbhaaGreatDoor
open Go.ChangeShapes Go.WideShapes Go.RowKit
set_option linter.unusedVariables false
set_option linter.unusedSimpArgs false
set_option maxRecDepth 100000

def errD (t : List UInt8) : DataW Unit := .iface "*errors.errorString" (.ptr (.agg [.lit (.string t)]))
theorem lt_of_cellE {w : World} {b o : Nat} {v : Value} (h : w.cell? ⟨b, o, none⟩ = some v) : b < w.heap.size := by
  rcases Nat.lt_or_ge b w.heap.size with q | q
  · exact q
  · simp [World.cell?, Array.getElem?_eq_none q] at h
theorem starE : "*errors.errorString" = "*" ++ "errors.errorString" := by decide
theorem rowE (u : TypeId) (h : Tryz.prog.typeName? 3 u = some "*errors.errorString") : u = 166 :=
  typeName_ptr_named (nm := "errors.errorString") (by rw [← starE]; kernel_rfl) (by kernel_rfl) (by decide) u (by rw [← starE]; exact h)

theorem errs_of {W : World} : ∀ (L : List (String × List UInt8 × Nat)) (ps : List MemPlace), (∀ x ∈ L, Tryz.prog.globalNamed x.1 = some x.2.2 ∧ (Tryz.prog.globals[x.2.2]?).map (·.type) = some 32) →
    DataW.LaidVars Tryz.prog W (L.map fun x => (x.1, errD x.2.1)) ps → ps.Nodup →
    (∀ b off, MemPlace.cell b off ∈ ps → (∃ c t, W.heap[b]? = some (.cells c t (0, 0))) ∧ ∀ u v, W.cell? ⟨b, off, none⟩ = some (.iface u v) → Value.okWide Tryz.prog W .any 0 u v) →
    ∃ E : List Addr, E.length = L.length ∧ E.Nodup ∧ (∀ a ∈ E, MemPlace.cell a.block a.off ∈ ps) ∧
      ∀ (i : Nat) (x : String × List UInt8 × Nat) (a : Addr), L[i]? = some x → E[i]? = some a → W.cell? ⟨x.2.2, 0, none⟩ = some (ew a) ∧ ∃ c t, W.heap[a.block]? = some (.cells c t (0, 0))
  | [], ps, _, _, _, _ => ⟨[], rfl, List.nodup_nil, fun a h => (by cases h), fun i x a h => (by simp at h)⟩
  | x :: L, ps, hL, h, hnd, hr => by
    obtain ⟨g0, t0, cs0, f0, p0, q0, hg0, ht0, hv0, hd0, hrest, e0⟩ := h
    obtain ⟨hg, ht⟩ := hL x (List.mem_cons_self ..)
    obtain rfl := Option.some.inj (hg.symm.trans hg0)
    obtain rfl := Option.some.inj (ht.symm.trans ht0)
    subst e0
    have hsub : (q0).Sublist (MemPlace.row ⟨x.2.2, 0, none⟩ cs0.size ++ p0 ++ q0) := List.sublist_append_right _ _
    obtain ⟨E, h1, h2, h3, h4⟩ := errs_of L q0 (fun y hy => hL y (List.mem_cons_of_mem _ hy)) hrest (List.Nodup.sublist hsub hnd) (fun b off hm => hr b off (List.mem_append_right _ hm))
    obtain ⟨l0⟩ := cs0
    have ok0 : ∀ u v, l0 = [.iface u v] → Value.okWide Tryz.prog W .any 0 u v := fun u v e => by
      subst e
      exact (hr x.2.2 0 (by simp [MemPlace.row])).2 u v (by simpa using World.var?_cell hg hv0 0)
    obtain ⟨a, s, rfl, hc, hs, hz, rfl⟩ := errorString_of_trod Tryz.underlying32 rowE Tryz.underlying166 Tryz.underlying184 rfl rfl Tryz.underlying9 (by kernel_rfl) (by kernel_rfl) hd0 ok0
    have hma : MemPlace.cell a.block a.off ∈ MemPlace.row a 1 := by simp [MemPlace.row]
    refine ⟨a :: E, by simp [h1], List.nodup_cons.2 ⟨fun hm => ?_, h2⟩, fun b hb => ?_, fun i y b hy hb => ?_⟩
    · have := h3 a hm
      rw [List.append_assoc, List.nodup_append] at hnd
      have h5 := (List.nodup_append.1 hnd.2.1).2.2 _ hma _ this
      exact h5 rfl
    · rcases List.mem_cons.1 hb with rfl | q
      · exact List.mem_append_left _ (List.mem_append_right _ hma)
      · exact List.mem_append_right _ (h3 b q)
    · cases i with
      | zero =>
        simp at hy hb
        subst hy
        subst hb
        refine ⟨?_, (hr a.block a.off (List.mem_append_left _ (List.mem_append_right _ hma))).1⟩
        have := World.var?_cell hg hv0 0
        simpa using this
      | succ i => exact h4 i y b (by simpa using hy) (by simpa using hb)

/-- The list that the cards bear. -/
def sevenL : List (String × List UInt8 × Nat) := [("grammarsmith/api.ErrSyntax", [110, 111, 116, 32, 111, 102, 32, 116, 104, 101, 32, 102, 111, 114, 109, 32, 97, 115, 107, 101, 100], 0), ("grammarsmith/api.ErrBound", [109, 111, 114, 101, 32, 116, 104, 97, 110, 32, 109, 97, 121, 32, 98, 101], 1), ("grammarsmith/api.ErrRule", [97, 32, 114, 117, 108, 101, 32, 116, 104, 97, 116, 32, 99, 97, 110, 32, 110, 111, 116, 32, 115, 116, 97, 110, 100], 2), ("grammarsmith/api.ErrName", [97, 32, 110, 97, 109, 101, 32, 116, 104, 97, 116, 32, 105, 115, 32, 110, 111, 110, 101, 44, 32, 111, 114, 32, 105, 115, 32, 116, 104, 101, 114, 101, 32, 97, 108, 114, 101, 97, 100, 121], 3), ("grammarsmith/api.ErrType", [97, 32, 118, 97, 108, 117, 101, 32, 111, 102, 32, 97, 110, 111, 116, 104, 101, 114, 32, 116, 121, 112, 101], 4), ("grammarsmith/api.ErrConflict", [97, 110, 32, 97, 99, 116, 105, 111, 110, 32, 105, 115, 32, 110, 111, 116, 32, 100, 101, 99, 105, 100, 101, 100], 5), ("grammarsmith/api.ErrEnd", [110, 111, 32, 115, 101, 110, 116, 101, 110, 99, 101], 6)]
theorem errs_metP {W : World} (h : laidMetH Tryz.prog Rows.patternWrittenRow.laid W) : (∃ E, ErW W W.heap.size E) ∧ Tz W W.heap.size := by
  have h' : laidMet Tryz.prog ([("math/bits.deBruijn32tab", Rows.laid_math_bits_deBruijn32tab), ("math/bits.deBruijn64tab", Rows.laid_math_bits_deBruijn64tab), ("internal/strconv.uint64pow10", Rows.laid_internal_strconv_uint64pow10)] ++ sevenL.map fun x => (x.1, errD x.2.1)) W ∧ handlesMet Tryz.prog [("errors.errorType", Rows.laid_errors_errorType)] W := h
  obtain ⟨⟨ps, hv, hnd, hr⟩, hh⟩ := h'
  obtain ⟨g1, t1, c1, f1, p1, q1, hg1, ht1, hv1, hd1, hv, e1⟩ := hv
  obtain ⟨g2, t2, c2, f2, p2, q2, hg2, ht2, hv2, hd2, hv, e2⟩ := hv
  obtain ⟨g3, t3, c3, f3, p3, q3, hg3, ht3, hv3, hd3, hv, e3⟩ := hv
  have hz : Tz W W.heap.size := by
    have hg : Tryz.prog.globalNamed "math/bits.deBruijn64tab" = some 11 := by kernel_rfl
    obtain rfl := Option.some.inj (hg.symm.trans hg2)
    have hty : (Tryz.prog.globals[11]?).map (·.type) = some 164 := by kernel_rfl
    obtain rfl := Option.some.inj (hty.symm.trans ht2)
    have e : (Rows.laid_math_bits_deBruijn64tab : DataW Unit) = Lib.tabData .u8 [0, 1, 56, 2, 57, 49, 28, 3, 61, 58, 42, 50, 38, 29, 17, 4, 62, 47, 59, 36, 45, 43, 51, 22, 53, 39, 33, 30, 24, 18, 12, 5, 63, 55, 48, 27, 60, 41, 37, 16, 46, 35, 44, 21, 52, 32, 23, 11, 54, 26, 40, 15, 34, 20, 31, 10, 25, 14, 19, 9, 13, 8, 7, 6] := by kernel_rfl
    rw [e] at hd2
    have hc := Lib.cells_of_tab Tryz.underlying164 Tryz.underlying5 (by kernel_rfl) (by kernel_rfl) hd2
    have hz := World.var?_cell hg hv2 15
    rw [← Array.getElem?_toList, hc] at hz
    exact ⟨hz, lt_of_cellE hz⟩
  have hsub : q3.Sublist ps := by
    rw [e1, e2, e3]
    exact ((List.sublist_append_right _ _).trans (List.sublist_append_right _ _)).trans (List.sublist_append_right _ _)
  refine ⟨?_, hz⟩
  clear hz hd1 hd2 hd3 hv1 hv2 hv3 ht1 ht2 ht3 hg1 hg2 hg3 e1 e2 e3
  have hnd := List.Nodup.sublist hsub hnd
  have hr := fun b off hm => hr b off (hsub.subset hm)
  obtain ⟨E, h1, h2, h3, h4⟩ := errs_of sevenL q3 (fun x hx => by
    simp only [sevenL, List.mem_cons, List.not_mem_nil, or_false] at hx
    rcases hx with rfl | rfl | rfl | rfl | rfl | rfl | rfl <;> exact ⟨by kernel_rfl, by kernel_rfl⟩) hv hnd hr
  obtain ⟨name, u, ty, e1, e2, e3, e4, e5⟩ := hh _ (List.mem_singleton.2 rfl)
  have en : name = [101, 114, 114, 111, 114] := (Option.some.inj e1).symm
  subst en
  have rt : (Tryz.prog.cutTypes.find? (·.1 == "internal/reflectlite.rtype")).map (·.2) = some 109 := by kernel_rfl
  have et : Tryz.prog.globalNamed "errors.errorType" = some 7 := by kernel_rfl
  have hsz : Tryz.prog.types.size = 196 := by kernel_rfl
  have oneRow : ((List.range 196).filter fun t => Tryz.prog.rowNamed t [101, 114, 114, 111, 114]) = [32] := by kernel_rfl
  obtain rfl := Option.some.inj (rt.symm.trans e2)
  have hm : ty ∈ (List.range 196).filter fun t => Tryz.prog.rowNamed t [101, 114, 114, 111, 114] := List.mem_filter.2 ⟨List.mem_range.2 (by rw [← hsz]; exact e3), e4⟩
  rw [oneRow] at hm
  obtain rfl := List.mem_singleton.1 hm
  have ht : typeHandle Tryz.prog 32 = .pointer (some ⟨12, 32, none⟩) := by kernel_rfl
  rw [ht] at e5
  have hcell : W.cell? ⟨7, 0, none⟩ = some handleE := by simpa using World.var?_cell et e5 0
  have hl : E.length = 7 := h1
  have key : ∀ i, i < 7 → ∃ x a, sevenL[i]? = some x ∧ E[i]? = some a ∧ E.getD i default = a ∧ x.2.2 = evar i := fun i hi => by
    have hx : i < sevenL.length := hi
    have ha : i < E.length := by omega
    refine ⟨sevenL[i], E[i], List.getElem?_eq_getElem hx, List.getElem?_eq_getElem ha, by simp [ha], ?_⟩
    match i, hi with
    | 0, _ => rfl
    | 1, _ => rfl
    | 2, _ => rfl
    | 3, _ => rfl
    | 4, _ => rfl
    | 5, _ => rfl
    | 6, _ => rfl
  refine ⟨fun i => E.getD i default, fun i hi => ?_, fun i hi => ?_, fun i j hi hj hne e => ?_, hcell, fun i hi => ?_, ?_⟩
  · obtain ⟨x, a, k1, k2, k3, k4⟩ := key i hi
    have := (h4 i x a k1 k2).1
    rw [k4] at this
    rw [k3]; exact this
  · obtain ⟨x, a, k1, k2, k3, k4⟩ := key i hi
    obtain ⟨c, t, k5⟩ := (h4 i x a k1 k2).2
    rw [k3]
    exact ⟨(Array.getElem?_eq_some_iff.1 k5).1, c, t, k5⟩
  · obtain ⟨x, a, k1, k2, k3, k4⟩ := key i hi
    obtain ⟨y, b, l1, l2, l3, l4⟩ := key j hj
    rw [k3, l3] at e
    subst e
    exact hne ((List.getElem?_inj (show i < E.length by omega) h2).1 (k2.trans l2.symm))
  · obtain ⟨x, a, k1, k2, k3, k4⟩ := key i hi
    have := (h4 i x a k1 k2).1
    rw [k4] at this
    exact lt_of_cellE this
  · exact lt_of_cellE hcell
end Go.Proofs.YtaachamblagbhaaGreatDoor
namespace Go.Proofs.YtaachamblagbhaaGreatDoor
open Go.RowKit BigFrame
set_option linter.unusedVariables false
set_option linter.unusedSimpArgs false
set_option maxRecDepth 100000

theorem elIntP : ElTy Tryz.prog 24 3 1 8 (.int .i64 0) := ⟨Tryz.underlying24, by kernel_rfl, rfl, by decide⟩
set_option maxHeartbeats 4000000 in
theorem smallTree_any (A : Option Addr) (n c : Nat) (Q : List Pw) (w : World) (B : Nat) (hB : B ≤ w.heap.size) (hQ : RdPw w B A n c Q) (hn : n ≤ 2000) :
    Calls Tryz.prog 5 #[.slice A n c] w fun e w' => ∃ r, e = .returned (.bool r) ∧ Below w.heap.size w w' := by
  have HQ := Lib.hid hQ
  obtain ⟨-, hnc, hcm⟩ := hQ.len
  unfold maxLen at hcm
  clear hQ
  go_enter Tryz.func5, Tryz.ntmps5
  go_wp2_with fail
  go_loopw [3, 4, 5, 6] (fun v i u1 u2 wr => ∃ (k : Nat) (L : List Int), k ≤ n ∧ i = .int .i64 (k : Int) ∧ L.length = k ∧ Hid (∀ x ∈ L, 0 ≤ x ∧ x ≤ 2001 * (k : Int)) ∧ Hid (wr.ownsRow w.heap.size 3 1 v k (iv L)) ∧ Hid (Below w.heap.size w wr)) (fun _ i _ _ _ => n - (intOf i).toNat)
  case atStart => exact ⟨0, [], Nat.zero_le _, rfl, rfl, fun x hx => (by cases hx), World.ownsRow_nil _ _ _ _, Below.refl _ _⟩
  case round =>
    as_aux_lemma =>
      obtain ⟨k, L, hk, rfl, hL, HX, HO, HB⟩ := hrel
      have hsz := HB.out.size
      obtain ⟨wo, rfl⟩ : ∃ wo : World, wo = wr := ⟨_, rfl⟩
      by_cases hlt : k < n
      · as_aux_lemma =>
          obtain ⟨b, off, rfl, hb, hc⟩ := (HQ.out.below (HB.out.mono hB)).at_ (by omega)
          obtain ⟨kd, mn, mx, s, r, A1, n1, c1, A2, n2, c2, q0, z0, z1, z2, z3, z4, -, -, -, -, hrl, hr2, hr3, hrd, -, -, -, -, -⟩ := hc k hlt
          obtain ⟨Av, cv, rfl, hv1, hv2, hrdv⟩ := own_form HO.out
          unfold maxLen at hv2 hr3
          have HRI := Lib.hid hrd; have HRL := Lib.hid hrl
          have HRV : Hid (RdI wo wo.heap.size Av L) := Lib.hid hrdv
          have HL := Lib.hid hL
          clear hc hrd hrl q0 z0 z1 z2 z3 hrdv hL
          go_wp2_with fail
          go_loop [5, 6] (fun s j => ∃ (m : Nat) (x : Int), m ≤ n2 ∧ j = .int .i64 (m : Int) ∧ s = .int .i64 x ∧ 1 ≤ x ∧ x ≤ 2001 * ((k : Int) + 1)) (fun _ j => n2 - (intOf j).toNat)
          case atStart => exact ⟨0, 1, Nat.zero_le _, rfl, rfl, by omega, by omega⟩
          case round =>
            as_aux_lemma =>
              obtain ⟨m, x, hm, rfl, rfl, hx1, hx2⟩ := hrel
              by_cases hml : m < n2
              · as_aux_lemma =>
                  obtain ⟨rb, ro, rfl, hrb, hrc⟩ := HRI.out.at_ (by rw [HRL.out]; omega)
                  have zk := hrc m (by rw [HRL.out]; exact hml)
                  obtain ⟨y, hy⟩ : ∃ y, y = nth r m := ⟨_, rfl⟩
                  rw [← hy] at zk
                  clear hrc hy
                  by_cases p1 : 0 ≤ y
                  · by_cases p2 : y < (k : Int)
                    · by_cases p3 : x ≤ 2000
                      · as_aux_lemma =>
                          obtain ⟨yn, rfl⟩ := Int.eq_ofNat_of_zero_le p1
                          have hyn : yn < k := by omega
                          obtain ⟨g, o, rfl, _, hgc⟩ := HRV.out.at_ (by rw [HL.out]; omega)
                          have zg := hgc yn (by rw [HL.out]; exact hyn)
                          have hbd := HX.out (nth L yn) (by rw [nth_get (by rw [HL.out]; exact hyn)]; exact List.getElem_mem _)
                          obtain ⟨d, hd⟩ : ∃ d, d = nth L yn := ⟨_, rfl⟩
                          rw [← hd] at zg hbd
                          obtain ⟨d1, d2⟩ := hbd
                          clear hgc hd
                          have hbig : x + d ≤ 9223372036854775807 := by omega
                          have hfin : x + d ≤ 2001 * ((k : Int) + 1) := by omega
                          go_wp2_with fail
                          go_round
                          case rel => exact ⟨m + 1, x + d, by omega, by go_num, rfl, by omega, hfin⟩
                          case measure => simp [intOf]; omega
                      · as_aux_lemma =>
                          have p1' : decide (0 ≤ y) = true := decide_eq_true p1
                          go_wp2_with fail
                          go_round
                          case rel => exact ⟨m + 1, x, by omega, by go_num, rfl, hx1, hx2⟩
                          case measure => simp [intOf]; omega
                    · as_aux_lemma =>
                        go_wp2_with fail
                        go_round
                        case rel => exact ⟨m + 1, x, by omega, by go_num, rfl, hx1, hx2⟩
                        case measure => simp [intOf]; omega
                  · as_aux_lemma =>
                      go_wp2_with fail
                      go_round
                      case rel => exact ⟨m + 1, x, by omega, by go_num, rfl, hx1, hx2⟩
                      case measure => simp [intOf]; omega
              · as_aux_lemma =>
                  have hs1 : ∀ (v : Value) (w' : World), w'.ownsRow w.heap.size 3 1 v (k + 1) (iv L ++ [.int .i64 x]) → w'.ownsRow w.heap.size 3 1 v (k + 1) (iv (L ++ [x])) := fun v w' h => by unfold iv at h ⊢; rw [List.map_append]; exact h
                  have HS1 := Lib.hid hs1
                  have HX2 : Hid (∀ y ∈ L ++ [x], 0 ≤ y ∧ y ≤ 2001 * ((k + 1 : Nat) : Int)) := Lib.hid (fun y hy => by
                    rcases List.mem_append.1 hy with q | q
                    · have := HX.out y q; omega
                    · rw [List.mem_singleton] at q
                      subst q
                      omega)
                  clear hs1
                  go_wp2_with (at_builtin; refine wpList_app elIntP rfl (.tmp 61) (.tmp 63) rfl w.heap.size _ k 1 (iv L) [.int .i64 x] rfl HO.out rfl rfl (by simp [Value.oneCell']) (by omega) (by omega) hsz ?_; intro v2 w2 hown2 hg2 hat2; have HO2 := Lib.hid (HS1.out _ _ hown2); have HB2 := Lib.hid (HB.out.grown hg2 hsz (fun k e => own_base HO.out k e)); clear hown2 hg2 hat2)
                  go_roundw
                  case rel => exact ⟨k + 1, L ++ [x], by omega, by go_num, by rw [List.length_append, HL.out]; rfl, HX2, HO2, HB2⟩
                  case measure => simp [intOf]; omega
      · as_aux_lemma =>
          obtain rfl : k = n := by omega
          obtain ⟨Av, cv, rfl, hv1, hv2, hrdv⟩ := own_form HO.out
          unfold maxLen at hv2
          rcases Nat.eq_zero_or_pos k with k0 | k0
          · subst k0
            clear hrdv
            go_wp2_with fail
            go_ret
            exact ⟨_, rfl, HB.out⟩
          · obtain ⟨g, o, rfl, _, hc⟩ := (show RdI wo wo.heap.size Av L from hrdv).at_ (by omega)
            have zc := hc (k - 1) (by omega)
            clear hc hrdv
            obtain ⟨j, rfl⟩ : ∃ j, k = j + 1 := ⟨k - 1, by omega⟩
            rw [Nat.add_sub_cancel] at zc
            have hj1 : ((j + 1 : Nat) : Int) ≠ 0 := by omega
            go_wp2_with fail
            go_ret
            exact ⟨_, rfl, HB.out⟩
end Go.Proofs.YtaachamblagbhaaGreatDoor
namespace Go.Proofs.YtaachamblagbhaaGreatDoor
open Go
set_option linter.unusedVariables false
set_option linter.unusedSimpArgs false

section
variable {P : Program} {ops : Array Oper} {md : Region.Mode} {w : World}
/-- Each of the first n that is not marked in L0 is waited for by one behind it, up to n. -/
def sinkL (md : Region.Mode) (ops : Array Oper) (n : Nat) (L0 : Array Bool) : Bool :=
  (List.range n).all fun i => L0.getD i false || (List.range (n + 1)).any fun j => decide (i < j) && Region.waitsFor md ops j i
def Over (L0 listed : Array Bool) : Prop := ∀ j, L0.getD j false = true → listed.getD j false = true
theorem Over.set {L0 listed : Array Bool} (h : Over L0 listed) (i : Nat) : Over L0 (listed.setIfInBounds i true) := fun j hj => getD_set_true (h j hj)
theorem tailL {n : Nat} {L0 listed : Array Bool} (hs : sinkL md ops n L0 = true) (hc : Region.chainB md ops n = true) (hn : n < ops.size) (inv : HeadInv md ops n listed) (ho : Over L0 listed) :
    ∀ (d i : Nat), n - i ≤ d → i < n → listed.getD i true = false → ∀ t, n ≤ t → t ∉ Region.ready md ops listed
  | 0, i, hd, hi, _, _, _ => by omega
  | d + 1, i, hd, hi, hun, t, ht => fun hr => by
    obtain ⟨_, ot, hot, hall⟩ := mem_ready.1 hr
    have htl : t < ops.size := (Array.getElem?_eq_some_iff.1 hot).1
    have noEdge : ∀ (e : Edge), e ∈ ot.after → Region.binds md e = true → listed.getD e.on true = false → False := fun e he hb hl => by
      have := hall e he hb
      rw [getD_both hl] at this
      cases this
    rcases Nat.lt_or_ge n t with q | q
    · have h1 := List.all_eq_true.1 hc t (List.mem_range.2 htl)
      simp only [Bool.or_eq_true, decide_eq_true_eq] at h1
      rcases h1 with h1 | h1
      · omega
      · obtain ⟨o2, ho2, e, he, hb, hon⟩ := Region.waitsFor_spec h1
        rw [hot] at ho2
        cases ho2
        exact noEdge e he hb (by rw [hon]; exact inv.tail (t - 1) (by omega) (by omega))
    · obtain rfl : t = n := by omega
      have h1 := List.all_eq_true.1 hs i (List.mem_range.2 hi)
      rw [Bool.or_eq_true] at h1
      rcases h1 with h1 | h1
      · have := ho i h1
        rw [getD_both hun] at this
        cases this
      · obtain ⟨j, hj, hj2⟩ := List.any_eq_true.1 h1
        simp only [Bool.and_eq_true, decide_eq_true_eq] at hj2
        have hjt : j ≤ t := by have := List.mem_range.1 hj; omega
        obtain ⟨oj, hoj, e, he, hb, hon⟩ := Region.waitsFor_spec hj2.2
        by_cases hjn : j = t
        · subst hjn
          rw [hot] at hoj
          cases hoj
          exact noEdge e he hb (by rw [hon]; exact hun)
        · cases hl : listed.getD j false with
          | true =>
            have := inv.closed j oj hoj hl e he hb
            rw [hon, getD_both hun] at this
            cases this
          | false => exact tailL hs hc hn inv ho d j (by omega) (by omega) (getD_in (by rw [inv.size]; omega) hl) t ht hr

theorem firstL {n i : Nat} {oi : Oper} {v : Value} {L0 : Array Bool} {L : Array Bool → Act → Prop} (hi : ops[i]? = some oi) (hsel : ∀ (j : Nat) (o : Oper) cs b, ops[j]? = some o → o.op ≠ .select cs b)
    (hs : sinkL md ops n L0 = true) (hc : Region.chainB md ops n = true) (hn : n < ops.size) (hin : i < n)
    (hdone : ∀ listed a, L listed a → ∀ j ∈ Region.ready md ops listed, n ≤ j) :
    ∀ (f : Nat) (listed : Array Bool) (a : Act), HeadInv md ops n listed → Over L0 listed →
      (∀ j oj, ops[j]? = some oj → j ≠ i → listed.getD j true = false → (∀ e ∈ oj.after, Region.binds md e = true → e.on ≠ i) → oi.apart ops oj = true) →
      i ∈ Region.ready md ops listed → YieldsAt P ops w oi v a →
      wpAnyL P md ops w n L f (listed.setIfInBounds i true) (a.put oi.dst v) → wpAnyL P md ops w n L (f + 1) listed a := by
  intro f
  induction f with
  | zero =>
    intro listed a inv ho _ hr hy H
    have hun := (mem_ready.1 hr).1
    refine ⟨fun h => (by rw [h] at hr; cases hr), fun j hj => ?_⟩
    have hjn : j < n := Nat.lt_of_not_le fun q => tailL hs hc hn inv ho _ i (Nat.le_refl _) hin hun j q hj
    by_cases hji : j = i
    · subst hji; exact ⟨hjn, hy.stOp hi H⟩
    · have := hdone _ _ H j (ready_mono hj hji); omega
  | succ f ih =>
    intro listed a inv ho hfree hr hy H
    have hun := (mem_ready.1 hr).1
    refine ⟨fun h => (by rw [h] at hr; cases hr), fun j hj => ?_⟩
    have hjn : j < n := Nat.lt_of_not_le fun q => tailL hs hc hn inv ho _ i (Nat.le_refl _) hin hun j q hj
    by_cases hji : j = i
    · subst hji; exact ⟨hjn, hy.stOp hi H⟩
    · obtain ⟨hjun, oj, hoj, hall⟩ := mem_ready.1 hj
      have hno : ∀ e ∈ oj.after, Region.binds md e = true → e.on ≠ i := fun e he hb q => by
        have := hall e he hb
        rw [q, getD_both hun] at this
        cases this
      have h2 := stOp_put hoj (hfree j oj hoj hji hjun hno) (fun cs b => hsel i oi cs b hi) (fun cs b => hsel j oj cs b hoj) hy (H.2 j (ready_mono hj hji)).2
      refine ⟨hjn, stOp_mono (fun a' h3 => ih (listed.setIfInBounds j true) a' (inv.set hj hjn) (ho.set j) (fun k ok hk hki hku hkn => hfree k ok hk hki ?_ hkn) (ready_mono hr (Ne.symm hji)) h3.1 ?_) h2⟩
      · by_cases q : j = k
        · subst q; exact hjun
        · rw [getD_set_ne true q] at hku; exact hku
      · rw [Array.setIfInBounds_comm _ _ hji]; exact h3.2

theorem lexL {n g : Nat} {L0 : Array Bool} {Lq : Act → Prop} (hsel : Region.noSelect ops = true) (hs : sinkL md ops n L0 = true) (hc : Region.chainB md ops n = true) (hn : n < ops.size) :
    ∀ (l : List Oper) (k : Nat) (listed : Array Bool) (a : Act), (∀ j, j < l.length → l[j]? = ops[k + j]?) → k + l.length = n → HeadInv md ops n listed → Over L0 listed →
    Region.lexHead md ops g l.length k listed = true → wpStill P ops w Lq l a →
    wpAnyL P md ops w n (fun listed' a' => Region.seqB md ops g n listed' = true ∧ Lq a') l.length listed a
  | [], k, listed, a, _, hk, _, _, hB, h => by
    obtain rfl : k = n := by simpa using hk
    exact ⟨by simpa [Region.lexHead] using hB, h⟩
  | o :: l, k, listed, a, hl, hk, inv, ho, hB, h => by
    have h0 : ops[k]? = some o := by simpa using (hl 0 (by simp)).symm
    simp only [List.length_cons, Region.lexHead, Bool.and_eq_true] at hB
    obtain ⟨⟨hr, hf⟩, hB2⟩ := hB
    have hkn : k < n := by simp only [List.length_cons] at hk; omega
    have hr2 : k ∈ Region.ready md ops listed := by simpa using hr
    obtain ⟨v, hy, hK⟩ := yieldsAt_of_stOp h0 (show stOp P ops w k (wpStill P ops w Lq l) a by unfold stOp; simp only [h0]; exact h)
    exact firstL h0 (Region.noSelect_spec hsel) hs hc hn hkn (fun _ _ hL => seqB_ready hL.1) l.length listed a inv ho (Region.free_spec h0 hf) hr2 hy
      (lexL hsel hs hc hn l (k + 1) _ _ (fun j hj => by have := hl (j + 1) (by simp; omega); simpa [Nat.add_assoc, Nat.add_comm 1 j] using this) (by simp only [List.length_cons] at hk; omega) (inv.set hr2 hkn) (ho.set k) hB2 hK)

/-- The operations of a list in their order, each of which yields its value in whatever world. -/
def wpYld (P : Program) (ops : Array Oper) (K : Act → Prop) : List Oper → Act → Prop
  | [], a => K a
  | o :: l, a => ∃ v, Yields P ops o v a ∧ wpYld P ops K l (a.put o.dst v)
/-- They may come first; behind them stands 'listed'. -/
def yldB (md : Region.Mode) (ops : Array Oper) : Nat → Nat → Array Bool → Bool × Array Bool
  | 0, _, listed => (true, listed)
  | f + 1, k, listed => let r := yldB md ops f (k + 1) (listed.setIfInBounds k true); ((Region.ready md ops listed).contains k && Region.free md ops listed k && r.1, r.2)
theorem wpAny_yld {Q : Exit → Act → World → Prop} (hsel : Region.noSelect ops = true) (hQ : ∀ c a d v w, Q (.panic c) (a.put d v) w → Q (.panic c) a w) {g : Nat} {K : Act → Prop} :
    ∀ (l : List Oper) (k : Nat) (listed : Array Bool) (a : Act), (∀ j, j < l.length → l[j]? = ops[k + j]?) → (yldB md ops l.length k listed).1 = true →
    (∀ a', K a' → wpAny P md ops Q g (yldB md ops l.length k listed).2 a' w) → wpYld P ops K l a → wpAny P md ops Q (g + l.length) listed a w
  | [], k, listed, a, _, _, hK, h => hK a h
  | o :: l, k, listed, a, hl, hB, hK, h => by
    have h0 : ops[k]? = some o := by simpa using (hl 0 (by simp)).symm
    simp only [List.length_cons, yldB, Bool.and_eq_true] at hB hK
    obtain ⟨⟨hr, hf⟩, hB2⟩ := hB
    obtain ⟨v, hy, h2⟩ := h
    exact wpAny_take h0 hsel hf hr (fun c a w q => hQ c a _ _ w q) hy
      (wpAny_yld hsel hQ l (k + 1) _ _ (fun j hj => by have := hl (j + 1) (by simp; omega); simpa [Nat.add_assoc, Nat.add_comm 1 j] using this) hB2 hK h2)
/-- What is to be checked of the region: m ahead that touch no memory, still ones up to n, a tail in one order. -/
def stragB (md : Region.Mode) (ops : Array Oper) (m n : Nat) : Bool :=
  let r := yldB md ops m 0 (Array.replicate ops.size false)
  Region.noSelect ops && decide (n < ops.size) && decide (m ≤ n) && r.1 && sinkL md ops n r.2 && Region.chainB md ops n && Region.lexHead md ops (ops.size - n) (n - m) m r.2
theorem yldB_head {n : Nat} : ∀ (f k : Nat) (listed : Array Bool), k + f ≤ n → HeadInv md ops n listed → (yldB md ops f k listed).1 = true → HeadInv md ops n (yldB md ops f k listed).2
  | 0, k, listed, _, inv, _ => inv
  | f + 1, k, listed, h, inv, hB => by
    simp only [yldB, Bool.and_eq_true] at hB ⊢
    exact yldB_head f (k + 1) _ (by omega) (inv.set (by simpa using hB.1.1) (by omega)) hB.2
theorem wp_region_strag {id : Nat} {Q : Exit → Act → World → Prop} {a : Act} {w : World} {l : List Oper} (m n : Nat) (hm : P.follows .mixedOrders = true) (hB : stragB .any l.toArray m n = true)
    (hQ : ∀ c a d v w, Q (.panic c) (a.put d v) w → Q (.panic c) a w)
    (h : wpYld P l.toArray (fun a' => wpStill P l.toArray w.drew (fun a'' => wpList P l.toArray Q (l.drop n) a'' w.drew) ((l.drop m).take (n - m)) a') (l.take m) a) : (Code.region id l.toArray true).wp P Q a w := by
  simp only [stragB, Bool.and_eq_true, decide_eq_true_eq] at hB
  obtain ⟨⟨⟨⟨⟨⟨hsel, hn⟩, hmn⟩, hy⟩, hs⟩, hc⟩, hlex⟩ := hB
  have hn2 : n < l.length := by simpa using hn
  have hlm : (l.take m).length = m := by simp; omega
  have hlh : ((l.drop m).take (n - m)).length = n - m := by simp; omega
  have hld : (l.drop n).length = l.toArray.size - n := by simp
  have inv0 : HeadInv .any l.toArray n (Array.replicate l.toArray.size false) :=
    ⟨by simp, fun j oj _ q => (by rw [getD_replicate_false] at q; cases q), fun t _ ht => getD_in (by simpa using ht) (getD_replicate_false _ _)⟩
  have inv1 := yldB_head m 0 _ (by omega) inv0 hy
  refine wp_region_any hm ?_
  have key := wpAny_yld (md := .any) (Q := Q) (w := w.drew) (g := n - m + (l.toArray.size - n)) hsel hQ (l.take m) 0 (Array.replicate l.toArray.size false) a
    (fun j hj => by rw [hlm] at hj; simp [hj]) (by rw [hlm]; exact hy) (fun a' ha' => by
      rw [hlm]
      have H := lexL (md := .any) (g := l.toArray.size - n) hsel hs hc hn ((l.drop m).take (n - m)) m _ a' (fun j hj => by
        rw [hlh] at hj
        simp [hj]) (by rw [hlh]; omega) inv1 (fun _ q => q) (by rw [hlh]; exact hlex) ha'
      have := wpAny_of_head (Q' := Q) (g := l.toArray.size - n) (fun listed a' hL => by
        have := wpAny_of_seq (md := .any) (Q' := Q) (l.drop n) n listed a' w.drew (fun j => by simp [List.getElem?_drop]) (by rw [hld]; exact hL.1) hL.2
        rwa [hld] at this) _ _ _ H
      rwa [hlh] at this) h
  rw [hlm, show n - m + (l.toArray.size - n) + m = l.toArray.size by omega] at key
  exact key
/-- Unguarded copies of slots. -/
def movesB (l : List Oper) : Bool := l.all fun o => (match o.op with | .move _ => true | _ => false) && o.guard.isNone
theorem wpYld_of_quiet {K : Act → Prop} (l2 : List Oper) : ∀ (l : List Oper) (a : Act), movesB l = true → wpQuiet P ops (fun w' => w' = w) K (l ++ l2) a → wpYld P ops (fun a' => wpStill P ops w K l2 a') l a
  | [], a, _, h => wpStill_of_quiet _ _ h
  | o :: l, a, hB, h => by
    simp only [movesB, List.all_cons, Bool.and_eq_true] at hB
    obtain ⟨⟨hmv, hg⟩, hB2⟩ := hB
    have hw : Region.wanted o (yielded ops a.tmps) = true := by
      unfold Region.wanted
      cases hgg : o.guard with
      | none => rfl
      | some x => rw [hgg] at hg; cases hg
    have ho : ∃ x, o.op = .move x := by
      revert hmv
      cases o.op <;> simp
    obtain ⟨x, hx⟩ := ho
    rw [List.cons_append] at h
    unfold wpQuiet at h
    rw [if_pos hw] at h
    obtain ⟨v, h1, h2⟩ := h
    have h3 := h1 w rfl
    unfold Oper.quietAt at h3
    have hr : ∀ w, (execOp a.eval o).run P w = .ok (.value (a.eval x)) w := fun w => BigFrame.run_move x hx w
    rw [hr] at h3
    obtain ⟨_, h4⟩ := h3
    exact ⟨v, .inl ⟨hw, fun w => by rw [hr]; rw [h4]⟩, wpYld_of_quiet l2 l _ hB2 h2⟩
theorem wp_region_moves {id : Nat} {Q : Exit → Act → World → Prop} {a : Act} {w : World} {l : List Oper} (m n : Nat) (hm : P.follows .mixedOrders = true) (hB : stragB .any l.toArray m n = true) (hV : movesB (l.take m) = true)
    (hQ : ∀ c a d v w, Q (.panic c) (a.put d v) w → Q (.panic c) a w)
    (h : wpQuiet P l.toArray (fun w' => w' = w.drew) (fun a'' => wpList P l.toArray Q (l.drop n) a'' w.drew) (l.take n) a) : (Code.region id l.toArray true).wp P Q a w := by
  have hB2 := hB
  simp only [stragB, Bool.and_eq_true, decide_eq_true_eq] at hB2
  obtain ⟨⟨⟨⟨⟨⟨_, _⟩, hmn⟩, _⟩, _⟩, _⟩, _⟩ := hB2
  refine wp_region_strag m n hm hB hQ (wpYld_of_quiet _ _ _ hV ?_)
  have e : l.take m ++ (l.drop m).take (n - m) = l.take n := by
    rw [← List.drop_take]
    have : l.take m = (l.take n).take m := by rw [List.take_take, Nat.min_eq_left hmn]
    rw [this, List.take_append_drop]
  rw [e]; exact h
end
end Go.Proofs.YtaachamblagbhaaGreatDoor
