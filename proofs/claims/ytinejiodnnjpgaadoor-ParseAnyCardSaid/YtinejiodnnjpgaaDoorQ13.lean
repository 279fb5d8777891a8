/- The document's leaves and Sound. · errors.Is at the errors of package api, bare or in a *api.Fault (after the kit's worked contracts of errors.Is, turned to this seat). -/
import Derived.Test.YtinejiodnnjpgaaDoorQ7
import Derived.Test.YtinejiodnnjpgaaDoorQ9
import Derived.StillTail
import Derived.Test.YtinejiodnnjpgaaDoorProg
import Derived.WalkKit
import Derived.LaidEql
import Derived.Stop.Asserts
import Derived.RowKitTokens
namespace Go.Proofs.YtinejiodnnjpgaaDoor
open Go.RowKit BigFrame
set_option linter.unusedVariables false
set_option linter.unusedSimpArgs false
set_option maxRecDepth 100000

theorem prodAt_of {G : Gr} {k : Nat} {q : Prd} (h : G.prods[k]? = some q) : prodAt G (k : Int) = q := by
  unfold prodAt
  rw [Int.toNat_natCast, List.getD_eq_getElem?_getD, h]; rfl
theorem bel_dn (w : World) (q B : Nat) : Below B w (w.drewN q) := ⟨rfl, rfl, rfl, Nat.le_refl _, fun _ _ => rfl⟩
set_option maxHeartbeats 4000000 in
theorem leaves_leaf (G : Gr) (Ap Al As : Option Addr) (np cp nl cl ns cs : Nat) (hk : GOk G) (B : Nat) (A : Option Addr) (n c : Nat) (l : List Int) (hl : l.length = n) (hn : n ≤ 100) (p tok : Int) (ks : List Tr) (v : Value) (s : Int) (at_ : Nat) (w : World) (hB : B ≤ w.heap.size) (hG : GrIn w B G Ap Al As np cp nl cl ns cs) (hT : TrB w B v (.node p tok ks)) (hI : RdI w B A l) (hat : at_ ≤ n) (hs1 : -1000 ≤ s) (hs2 : s ≤ 1000) (hkl : ks.length ≤ 100000) (hs : 0 ≤ s) :
    Calls Tryd.prog 27 #[.agg #[.int .i64 G.terms, .int .i64 G.names, .int .i64 G.start, .slice Ap np cp, .slice Al nl cl, .slice As ns cs], v, .int .i64 s, .slice A n c, .int .i64 at_] w fun e w' => e = .returned (.int .i64 (optI (lvT G l (.node p tok ks) s at_))) ∧ Below w.heap.size w w' := by
  obtain ⟨hb0, hs0, gb⟩ := gbox w G Ap Al As np cp nl cl ns cs
  obtain ⟨hp1, hp2⟩ := hG.p.len
  obtain ⟨b, A2, c2, rfl, hb, zp, zt, zk, hk1, hk2, hks⟩ := hT.node_inv
  have hG1 := hG.below (hb0.mono hB)
  have tr := fun (q : Addr) (z : q.block < B) => hb0.cell (p := q) (Nat.lt_of_lt_of_le z hB)
  have zp1 := (tr ⟨b, 0, none⟩ hb).trans zp
  have zt1 := (tr ⟨b, 1, none⟩ hb).trans zt
  have zk1 := (tr ⟨b, 2, none⟩ hb).trans zk
  have HLL := Lib.hid hl
  have HI := Lib.hid hI; have HKS := Lib.hid hks; have HG := Lib.hid hG1; have HB0 := Lib.hid hb0; have HGB := Lib.hid gb; have HP1 := Lib.hid hp1
  have hg3 := gb.c3
  unfold maxLen at hp2 hk2
  clear hI hks hG hG1 hb0 gb hp1 tr hl zp zt zk hT
  have HLV := Lib.hid (show lvT G l (.node p tok ks) s at_ = if leafOk p tok ks.length s l at_ then some (at_ + 1) else none by rw [lvT, if_pos hs])
  by_cases q1 : p = -1
  rotate_left
  · as_aux_lemma =>
      have d1 : (p != (-1 : Int)) = true := by simpa using q1
      have HN := Lib.hid (show optI (lvT G l (.node p tok ks) s at_) = -1 by rw [HLV.out, if_neg (fun q => q1 q.1)]; rfl)
      clear HLV
      go_enter Tryd.func27, Tryd.ntmps27
      go_wp2_with fail
      go_ret
      exact ⟨ret_eq (by rw [HN.out]; rfl), HB0.out⟩
  subst q1
  by_cases q2 : ks.length = 0
  rotate_left
  · as_aux_lemma =>
      have d2 : 0 < ks.length := by omega
      have HN := Lib.hid (show optI (lvT G l (.node (-1) tok ks) s at_) = -1 by rw [HLV.out, if_neg (fun q => q2 q.2.1)]; rfl)
      clear HLV
      go_enter Tryd.func27, Tryd.ntmps27
      go_wp2_with fail
      go_ret
      exact ⟨ret_eq (by rw [HN.out]; rfl), HB0.out⟩
  by_cases q3 : tok = (at_ : Int)
  rotate_left
  · as_aux_lemma =>
      have d2 : ¬ 0 < ks.length := by omega
      have d3 : (tok != (at_ : Int)) = true := by simpa using q3
      have HN := Lib.hid (show optI (lvT G l (.node (-1) tok ks) s at_) = -1 by rw [HLV.out, if_neg (fun q => q3 q.2.2.1)]; rfl)
      clear HLV
      go_enter Tryd.func27, Tryd.ntmps27
      go_wp2_with fail
      go_ret
      exact ⟨ret_eq (by rw [HN.out]; rfl), HB0.out⟩
  subst q3
  have d2 : ¬ 0 < ks.length := by omega
  by_cases q4 : at_ < n
  rotate_left
  · as_aux_lemma =>
      have HN := Lib.hid (show optI (lvT G l (.node (-1) (at_ : Int) ks) s at_) = -1 by rw [HLV.out, if_neg (fun q => q4 (by have := q.2.2.2.1; rw [HLL.out] at this; exact this))]; rfl)
      clear HLV
      go_enter Tryd.func27, Tryd.ntmps27
      go_wp2_with fail
      go_ret
      exact ⟨ret_eq (by rw [HN.out]; rfl), HB0.out⟩
  have hI1 := HI.out
  obtain ⟨ib, io, rfl, hib, hic⟩ := hI1.at_ (by rw [HLL.out]; omega)
  have zi := (HB0.out.cell (p := ⟨ib, io + at_, none⟩) (Nat.lt_of_lt_of_le hib hB)).trans (hic at_ (by rw [HLL.out]; exact q4))
  clear hI1 hic
  obtain ⟨x, hx⟩ : ∃ x, x = nth l at_ := ⟨_, rfl⟩
  rw [← hx] at zi
  by_cases q5 : x = s
  rotate_left
  · as_aux_lemma =>
      have d5 : (x != s) = true := by simpa using q5
      have HX := Lib.hid hx
      clear hx
      have HN := Lib.hid (show optI (lvT G l (.node (-1) (at_ : Int) ks) s at_) = -1 by rw [HLV.out, if_neg (fun q => q5 (by rw [HX.out]; exact q.2.2.2.2))]; rfl)
      clear HLV
      go_enter Tryd.func27, Tryd.ntmps27
      go_wp2_with fail
      go_ret
      exact ⟨ret_eq (by rw [HN.out]; rfl), HB0.out⟩
  have HY := Lib.hid (show optI (lvT G l (.node (-1) (at_ : Int) ks) s at_) = (at_ : Int) + 1 by rw [HLV.out, if_pos ⟨rfl, q2, rfl, by rw [HLL.out]; exact q4, by rw [← hx]; exact q5⟩]; rfl)
  subst q5
  clear HLV hx q2
  go_enter Tryd.func27, Tryd.ntmps27
  go_wp2_with fail
  go_ret
  exact ⟨ret_eq (by rw [HY.out]; rfl), HB0.out⟩
end Go.Proofs.YtinejiodnnjpgaaDoor
namespace Go.Proofs.YtinejiodnnjpgaaDoor
open Go.RowKit Go.Extern.Stop Go.Stop Go.Extern
set_option linter.unusedVariables false
set_option linter.unusedSimpArgs false
set_option maxRecDepth 100000

theorem isTypeOf (v : Value) (w : World) : (Extern.ReflectliteType.typeOf #[.iface 158 v]).run Tryd.prog w = .ok (.iface 126 (.agg #[.pointer (some ⟨11, 158, none⟩)])) w := by kernel_rfl
theorem isComparable (w : World) : ((Extern.ReflectliteType.method fun t => do Rtype.noPackHeld "Comparable" t; (fun a => Value.bool a.comparable) <$> typeInfo t) #[.agg #[.pointer (some ⟨11, 158, none⟩)]]).run Tryd.prog w = .ok (.bool true) w := by kernel_rfl
theorem isMethodComparable (v : Value) (w : World) : (Go.method 291 126 v "Comparable").run Tryd.prog w = .ok (101, v) w := by kernel_rfl
theorem isComp : (Tryd.prog.info? 158).map (·.comparable) = some true := by kernel_rfl
theorem isSize : (Tryd.prog.info? 179).map (·.size) = some 1 := by kernel_rfl
theorem noIsE (v : Value) (xT : TypeId) (w : World) : (Instr.typeAssert (.iface 158 v) xT 137 true).run Tryd.prog w = .ok (.tuple #[.nilIface, .bool false]) w := run_typeAssert_lacksB Tryd.underlying137 (by kernel_rfl) (by kernel_rfl) v xT w
theorem noUnwrapE (v : Value) (xT : TypeId) (w : World) : (Instr.typeAssert (.iface 158 v) xT 133 true).run Tryd.prog w = .ok (.tuple #[.nilIface, .bool false]) w := run_typeAssert_lacksB Tryd.underlying133 (by kernel_rfl) (by kernel_rfl) v xT w
theorem noUnwrapsE (v : Value) (xT : TypeId) (w : World) : (Instr.typeAssert (.iface 158 v) xT 135 true).run Tryd.prog w = .ok (.tuple #[.nilIface, .bool false]) w := run_typeAssert_lacksB Tryd.underlying135 (by kernel_rfl) (by kernel_rfl) v xT w
theorem noIsW (v : Value) (xT : TypeId) (w : World) : (Instr.typeAssert (.iface 27 v) xT 137 true).run Tryd.prog w = .ok (.tuple #[.nilIface, .bool false]) w := run_typeAssert_lacksB Tryd.underlying137 (by kernel_rfl) (by kernel_rfl) v xT w
theorem hasUnwrapW (v : Value) (xT : TypeId) (w : World) : (Instr.typeAssert (.iface 27 v) xT 133 true).run Tryd.prog w = .ok (.tuple #[.iface 27 v, .bool true]) w := run_typeAssert_hasB Tryd.underlying133 (by kernel_rfl) v xT w
theorem methodUnwrap (v : Value) (w : World) : (Go.method 291 27 v "Unwrap").run Tryd.prog w = .ok (94, v) w := by kernel_rfl

theorem is_same (a : Addr) (w : World) :
    Calls Tryd.prog 26 #[.iface 158 (.pointer (some a)), .iface 158 (.pointer (some a))] w fun e w' => e = .returned (.bool true) ∧ w' = w := by
  obtain ⟨i, hi, hcmp⟩ := Option.map_eq_some_iff.1 isComp
  obtain ⟨j, hj, hjs⟩ := Option.map_eq_some_iff.1 isSize
  have h8 := @run_callFunc_extern Tryd.prog 47 _ Extern.ReflectliteType.typeOf Tryd.func47 (by kernel_rfl) (by kernel_rfl) (by kernel_rfl) (by kernel_rfl)
  have h32 := @run_callFunc_extern Tryd.prog 101 _ (Extern.ReflectliteType.method fun t => do Rtype.noPackHeld "Comparable" t; pure (.bool (← typeInfo t).comparable)) Tryd.func101 (by kernel_rfl) (by kernel_rfl) (by kernel_rfl) (by kernel_rfl)
  have tT := isTypeOf
  have cT := isComparable
  have mR := isMethodComparable
  have heq := run_eql_iface_ptr_same (P := Tryd.prog) w a Tryd.underlying23 Tryd.underlying158 hi hcmp hj
  go_enter Tryd.func26, Tryd.ntmps26
  go_wp2
  refine wp_loop_rounds 1 ?_
  rw [rounds_succ]
  go_wp2
  go_ret
  exact ⟨rfl, rfl⟩

theorem is_other (a b : Addr) (ca cb : Array Value) (ta tb : TypeId) (w : World) (hne : a ≠ b) (ha : w.heap[a.block]? = some (.cells ca ta (0, 0))) (hb : w.heap[b.block]? = some (.cells cb tb (0, 0))) :
    Calls Tryd.prog 26 #[.iface 158 (.pointer (some a)), .iface 158 (.pointer (some b))] w fun e w' => e = .returned (.bool false) ∧ w' = w := by
  obtain ⟨i, hi, hcmp⟩ := Option.map_eq_some_iff.1 isComp
  obtain ⟨j, hj, hjs⟩ := Option.map_eq_some_iff.1 isSize
  have h8 := @run_callFunc_extern Tryd.prog 47 _ Extern.ReflectliteType.typeOf Tryd.func47 (by kernel_rfl) (by kernel_rfl) (by kernel_rfl) (by kernel_rfl)
  have h32 := @run_callFunc_extern Tryd.prog 101 _ (Extern.ReflectliteType.method fun t => do Rtype.noPackHeld "Comparable" t; pure (.bool (← typeInfo t).comparable)) Tryd.func101 (by kernel_rfl) (by kernel_rfl) (by kernel_rfl) (by kernel_rfl)
  have tT := isTypeOf
  have cT := isComparable
  have mR := isMethodComparable
  have nE := noIsE
  have uE := noUnwrapE
  have vE := noUnwrapsE
  have nW := noIsW
  have uW := hasUnwrapW
  have mU := methodUnwrap
  have heq := run_eql_iface_ptr_other (P := Tryd.prog) w Tryd.underlying23 Tryd.underlying158 hi hcmp hj (by rw [hjs]; decide) hne ha hb
  go_enter Tryd.func26, Tryd.ntmps26
  go_wp2
  refine wp_loop_rounds 1 ?_
  rw [rounds_succ]
  go_wp2
  go_ret
  exact ⟨rfl, rfl⟩

theorem is_wrap_same (pb po : Nat) (b : Addr) (w : World) (h1 : w.cell? ⟨pb, po, none⟩ = some (.iface 158 (.pointer (some b)))) :
    Calls Tryd.prog 26 #[.iface 27 (.pointer (some ⟨pb, po, none⟩)), .iface 158 (.pointer (some b))] w fun e w' => e = .returned (.bool true) ∧ w' = w := by
  obtain ⟨i, hi, hcmp⟩ := Option.map_eq_some_iff.1 isComp
  obtain ⟨j, hj, hjs⟩ := Option.map_eq_some_iff.1 isSize
  have h8 := @run_callFunc_extern Tryd.prog 47 _ Extern.ReflectliteType.typeOf Tryd.func47 (by kernel_rfl) (by kernel_rfl) (by kernel_rfl) (by kernel_rfl)
  have h32 := @run_callFunc_extern Tryd.prog 101 _ (Extern.ReflectliteType.method fun t => do Rtype.noPackHeld "Comparable" t; pure (.bool (← typeInfo t).comparable)) Tryd.func101 (by kernel_rfl) (by kernel_rfl) (by kernel_rfl) (by kernel_rfl)
  have tT := isTypeOf
  have cT := isComparable
  have mR := isMethodComparable
  have nE := noIsE
  have uE := noUnwrapE
  have vE := noUnwrapsE
  have nW := noIsW
  have uW := hasUnwrapW
  have mU := methodUnwrap
  have heq := run_eql_iface_ptr_same (P := Tryd.prog) w b Tryd.underlying23 Tryd.underlying158 hi hcmp hj
  have hty := run_eql_iface_types (P := Tryd.prog) 27 158 (.pointer (some ⟨pb, po, none⟩)) (.pointer (some b)) Tryd.underlying23 (by decide) w
  go_enter Tryd.func26, Tryd.ntmps26
  go_wp2
  refine wp_loop_rounds 2 ?_
  rw [rounds_succ]
  go_wp2
  rw [rounds_succ]
  go_wp2
  go_ret
  exact ⟨rfl, rfl⟩

theorem is_wrap_other (pb po : Nat) (b a : Addr) (ca cb : Array Value) (ta tb : TypeId) (w : World) (h1 : w.cell? ⟨pb, po, none⟩ = some (.iface 158 (.pointer (some a)))) (hne : a ≠ b) (ha : w.heap[a.block]? = some (.cells ca ta (0, 0))) (hb : w.heap[b.block]? = some (.cells cb tb (0, 0))) :
    Calls Tryd.prog 26 #[.iface 27 (.pointer (some ⟨pb, po, none⟩)), .iface 158 (.pointer (some b))] w fun e w' => e = .returned (.bool false) ∧ w' = w := by
  obtain ⟨i, hi, hcmp⟩ := Option.map_eq_some_iff.1 isComp
  obtain ⟨j, hj, hjs⟩ := Option.map_eq_some_iff.1 isSize
  have h8 := @run_callFunc_extern Tryd.prog 47 _ Extern.ReflectliteType.typeOf Tryd.func47 (by kernel_rfl) (by kernel_rfl) (by kernel_rfl) (by kernel_rfl)
  have h32 := @run_callFunc_extern Tryd.prog 101 _ (Extern.ReflectliteType.method fun t => do Rtype.noPackHeld "Comparable" t; pure (.bool (← typeInfo t).comparable)) Tryd.func101 (by kernel_rfl) (by kernel_rfl) (by kernel_rfl) (by kernel_rfl)
  have tT := isTypeOf
  have cT := isComparable
  have mR := isMethodComparable
  have nE := noIsE
  have uE := noUnwrapE
  have vE := noUnwrapsE
  have nW := noIsW
  have uW := hasUnwrapW
  have mU := methodUnwrap
  have heq := run_eql_iface_ptr_other (P := Tryd.prog) w Tryd.underlying23 Tryd.underlying158 hi hcmp hj (by rw [hjs]; decide) hne ha hb
  have hty := run_eql_iface_types (P := Tryd.prog) 27 158 (.pointer (some ⟨pb, po, none⟩)) (.pointer (some b)) Tryd.underlying23 (by decide) w
  go_enter Tryd.func26, Tryd.ntmps26
  go_wp2
  refine wp_loop_rounds 2 ?_
  rw [rounds_succ]
  go_wp2
  rw [rounds_succ]
  go_wp2
  go_ret
  exact ⟨rfl, rfl⟩
end Go.Proofs.YtinejiodnnjpgaaDoor
