/- errors.Is at the errors of package api, bare or in a *api.Fault (after the kit's worked contracts of errors.Is, turned to this seat). · errors.As at a target of type **api.Fault: an error of errors.New's make (false), a *api.Fault (true; the target is set) (after the kit's worked contracts of errors.As, turned to this seat). · plain.Code: the number of an error and its place. -/
import Derived.Test.YtaachamblagbhaaGreatDoorProg
import Derived.WalkKit
import Derived.LaidEql
import Derived.Stop.Asserts
import Derived.RowKitTokens
import Derived.Test.YtaachamblagbhaaGreatDoorQ3
namespace Go.Proofs.YtaachamblagbhaaGreatDoor
open Go.RowKit Go.Extern.Stop Go.Stop Go.Extern
set_option linter.unusedVariables false
set_option linter.unusedSimpArgs false
set_option maxRecDepth 100000

theorem isTypeOf (v : Value) (w : World) : (Extern.ReflectliteType.typeOf #[.iface 166 v]).run Tryz.prog w = .ok (.iface 109 (.agg #[.pointer (some ⟨12, 166, none⟩)])) w := by kernel_rfl
theorem isComparable (w : World) : ((Extern.ReflectliteType.method fun t => do Rtype.noPackHeld "Comparable" t; (fun a => Value.bool a.comparable) <$> typeInfo t) #[.agg #[.pointer (some ⟨12, 166, none⟩)]]).run Tryz.prog w = .ok (.bool true) w := by kernel_rfl
theorem isMethodComparable (v : Value) (w : World) : (Go.method 296 109 v "Comparable").run Tryz.prog w = .ok (135, v) w := by kernel_rfl
theorem isComp : (Tryz.prog.info? 166).map (·.comparable) = some true := by kernel_rfl
theorem isSize : (Tryz.prog.info? 184).map (·.size) = some 1 := by kernel_rfl
theorem noIsE (v : Value) (xT : TypeId) (w : World) : (Instr.typeAssert (.iface 166 v) xT 120 true).run Tryz.prog w = .ok (.tuple #[.nilIface, .bool false]) w := run_typeAssert_lacksB Tryz.underlying120 (by kernel_rfl) (by kernel_rfl) v xT w
theorem noUnwrapE (v : Value) (xT : TypeId) (w : World) : (Instr.typeAssert (.iface 166 v) xT 116 true).run Tryz.prog w = .ok (.tuple #[.nilIface, .bool false]) w := run_typeAssert_lacksB Tryz.underlying116 (by kernel_rfl) (by kernel_rfl) v xT w
theorem noUnwrapsE (v : Value) (xT : TypeId) (w : World) : (Instr.typeAssert (.iface 166 v) xT 118 true).run Tryz.prog w = .ok (.tuple #[.nilIface, .bool false]) w := run_typeAssert_lacksB Tryz.underlying118 (by kernel_rfl) (by kernel_rfl) v xT w
theorem noIsW (v : Value) (xT : TypeId) (w : World) : (Instr.typeAssert (.iface 63 v) xT 120 true).run Tryz.prog w = .ok (.tuple #[.nilIface, .bool false]) w := run_typeAssert_lacksB Tryz.underlying120 (by kernel_rfl) (by kernel_rfl) v xT w
theorem hasUnwrapW (v : Value) (xT : TypeId) (w : World) : (Instr.typeAssert (.iface 63 v) xT 116 true).run Tryz.prog w = .ok (.tuple #[.iface 63 v, .bool true]) w := run_typeAssert_hasB Tryz.underlying116 (by kernel_rfl) v xT w
theorem methodUnwrap (v : Value) (w : World) : (Go.method 296 63 v "Unwrap").run Tryz.prog w = .ok (128, v) w := by kernel_rfl

theorem is_same (a : Addr) (w : World) :
    Calls Tryz.prog 33 #[.iface 166 (.pointer (some a)), .iface 166 (.pointer (some a))] w fun e w' => e = .returned (.bool true) ∧ w' = w := by
  obtain ⟨i, hi, hcmp⟩ := Option.map_eq_some_iff.1 isComp
  obtain ⟨j, hj, hjs⟩ := Option.map_eq_some_iff.1 isSize
  have h8 := @run_callFunc_extern Tryz.prog 50 _ Extern.ReflectliteType.typeOf Tryz.func50 (by kernel_rfl) (by kernel_rfl) (by kernel_rfl) (by kernel_rfl)
  have h32 := @run_callFunc_extern Tryz.prog 135 _ (Extern.ReflectliteType.method fun t => do Rtype.noPackHeld "Comparable" t; pure (.bool (← typeInfo t).comparable)) Tryz.func135 (by kernel_rfl) (by kernel_rfl) (by kernel_rfl) (by kernel_rfl)
  have tT := isTypeOf
  have cT := isComparable
  have mR := isMethodComparable
  have heq := run_eql_iface_ptr_same (P := Tryz.prog) w a Tryz.underlying32 Tryz.underlying166 hi hcmp hj
  go_enter Tryz.func33, Tryz.ntmps33
  go_wp2
  refine wp_loop_rounds 1 ?_
  rw [rounds_succ]
  go_wp2
  go_ret
  exact ⟨rfl, rfl⟩

theorem is_other (a b : Addr) (ca cb : Array Value) (ta tb : TypeId) (w : World) (hne : a ≠ b) (ha : w.heap[a.block]? = some (.cells ca ta (0, 0))) (hb : w.heap[b.block]? = some (.cells cb tb (0, 0))) :
    Calls Tryz.prog 33 #[.iface 166 (.pointer (some a)), .iface 166 (.pointer (some b))] w fun e w' => e = .returned (.bool false) ∧ w' = w := by
  obtain ⟨i, hi, hcmp⟩ := Option.map_eq_some_iff.1 isComp
  obtain ⟨j, hj, hjs⟩ := Option.map_eq_some_iff.1 isSize
  have h8 := @run_callFunc_extern Tryz.prog 50 _ Extern.ReflectliteType.typeOf Tryz.func50 (by kernel_rfl) (by kernel_rfl) (by kernel_rfl) (by kernel_rfl)
  have h32 := @run_callFunc_extern Tryz.prog 135 _ (Extern.ReflectliteType.method fun t => do Rtype.noPackHeld "Comparable" t; pure (.bool (← typeInfo t).comparable)) Tryz.func135 (by kernel_rfl) (by kernel_rfl) (by kernel_rfl) (by kernel_rfl)
  have tT := isTypeOf
  have cT := isComparable
  have mR := isMethodComparable
  have nE := noIsE
  have uE := noUnwrapE
  have vE := noUnwrapsE
  have nW := noIsW
  have uW := hasUnwrapW
  have mU := methodUnwrap
  have heq := run_eql_iface_ptr_other (P := Tryz.prog) w Tryz.underlying32 Tryz.underlying166 hi hcmp hj (by rw [hjs]; decide) hne ha hb
  go_enter Tryz.func33, Tryz.ntmps33
  go_wp2
  refine wp_loop_rounds 1 ?_
  rw [rounds_succ]
  go_wp2
  go_ret
  exact ⟨rfl, rfl⟩

theorem is_wrap_same (pb po : Nat) (b : Addr) (w : World) (h1 : w.cell? ⟨pb, po, none⟩ = some (.iface 166 (.pointer (some b)))) :
    Calls Tryz.prog 33 #[.iface 63 (.pointer (some ⟨pb, po, none⟩)), .iface 166 (.pointer (some b))] w fun e w' => e = .returned (.bool true) ∧ w' = w := by
  obtain ⟨i, hi, hcmp⟩ := Option.map_eq_some_iff.1 isComp
  obtain ⟨j, hj, hjs⟩ := Option.map_eq_some_iff.1 isSize
  have h8 := @run_callFunc_extern Tryz.prog 50 _ Extern.ReflectliteType.typeOf Tryz.func50 (by kernel_rfl) (by kernel_rfl) (by kernel_rfl) (by kernel_rfl)
  have h32 := @run_callFunc_extern Tryz.prog 135 _ (Extern.ReflectliteType.method fun t => do Rtype.noPackHeld "Comparable" t; pure (.bool (← typeInfo t).comparable)) Tryz.func135 (by kernel_rfl) (by kernel_rfl) (by kernel_rfl) (by kernel_rfl)
  have tT := isTypeOf
  have cT := isComparable
  have mR := isMethodComparable
  have nE := noIsE
  have uE := noUnwrapE
  have vE := noUnwrapsE
  have nW := noIsW
  have uW := hasUnwrapW
  have mU := methodUnwrap
  have heq := run_eql_iface_ptr_same (P := Tryz.prog) w b Tryz.underlying32 Tryz.underlying166 hi hcmp hj
  have hty := run_eql_iface_types (P := Tryz.prog) 63 166 (.pointer (some ⟨pb, po, none⟩)) (.pointer (some b)) Tryz.underlying32 (by decide) w
  go_enter Tryz.func33, Tryz.ntmps33
  go_wp2
  refine wp_loop_rounds 2 ?_
  rw [rounds_succ]
  go_wp2
  rw [rounds_succ]
  go_wp2
  go_ret
  exact ⟨rfl, rfl⟩

theorem is_wrap_other (pb po : Nat) (b a : Addr) (ca cb : Array Value) (ta tb : TypeId) (w : World) (h1 : w.cell? ⟨pb, po, none⟩ = some (.iface 166 (.pointer (some a)))) (hne : a ≠ b) (ha : w.heap[a.block]? = some (.cells ca ta (0, 0))) (hb : w.heap[b.block]? = some (.cells cb tb (0, 0))) :
    Calls Tryz.prog 33 #[.iface 63 (.pointer (some ⟨pb, po, none⟩)), .iface 166 (.pointer (some b))] w fun e w' => e = .returned (.bool false) ∧ w' = w := by
  obtain ⟨i, hi, hcmp⟩ := Option.map_eq_some_iff.1 isComp
  obtain ⟨j, hj, hjs⟩ := Option.map_eq_some_iff.1 isSize
  have h8 := @run_callFunc_extern Tryz.prog 50 _ Extern.ReflectliteType.typeOf Tryz.func50 (by kernel_rfl) (by kernel_rfl) (by kernel_rfl) (by kernel_rfl)
  have h32 := @run_callFunc_extern Tryz.prog 135 _ (Extern.ReflectliteType.method fun t => do Rtype.noPackHeld "Comparable" t; pure (.bool (← typeInfo t).comparable)) Tryz.func135 (by kernel_rfl) (by kernel_rfl) (by kernel_rfl) (by kernel_rfl)
  have tT := isTypeOf
  have cT := isComparable
  have mR := isMethodComparable
  have nE := noIsE
  have uE := noUnwrapE
  have vE := noUnwrapsE
  have nW := noIsW
  have uW := hasUnwrapW
  have mU := methodUnwrap
  have heq := run_eql_iface_ptr_other (P := Tryz.prog) w Tryz.underlying32 Tryz.underlying166 hi hcmp hj (by rw [hjs]; decide) hne ha hb
  have hty := run_eql_iface_types (P := Tryz.prog) 63 166 (.pointer (some ⟨pb, po, none⟩)) (.pointer (some b)) Tryz.underlying32 (by decide) w
  go_enter Tryz.func33, Tryz.ntmps33
  go_wp2
  refine wp_loop_rounds 2 ?_
  rw [rounds_succ]
  go_wp2
  rw [rounds_succ]
  go_wp2
  go_ret
  exact ⟨rfl, rfl⟩
end Go.Proofs.YtaachamblagbhaaGreatDoor
namespace Go.Proofs.YtaachamblagbhaaGreatDoor
open Go.RowKit Go.Extern.Stop Go.Stop Go.Extern
set_option linter.unusedVariables false
set_option linter.unusedSimpArgs false
set_option maxRecDepth 100000

theorem as_nil (t : Value) (w : World) :
    Calls Tryz.prog 32 #[.nilIface, t] w fun e w' => e = .returned (.bool false) ∧ w' = w := by
  go_enter Tryz.func32, Tryz.ntmps32
  go_wp2
  go_ret
  exact ⟨rfl, rfl⟩
theorem aValueOfT (t : Addr) (w : World) : (ReflectliteValue.unpack (.iface 65 (.pointer (some t)))).run Tryz.prog w
    = .ok (.agg #[.pointer (some ⟨12, 65, none⟩), .pointer (some ⟨w.heap.size, 0, none⟩), .int .u64 150]) (w.alloc (.cells #[.pointer (some t)] 65)) := by kernel_rfl
theorem aTypeT (a : Addr) (w : World) : (ReflectliteValue.methodAny (ReflectliteValue.valueError "reflectlite.Value.Type" 0) (fun t _ _ _ => ReflectliteType.toType t) #[.agg #[.pointer (some ⟨12, 65, none⟩), .pointer (some a), .int .u64 150]]).run Tryz.prog w
    = .ok (.iface 109 (.agg #[.pointer (some ⟨12, 65, none⟩)])) w := by kernel_rfl
theorem aMethodKind (h : Value) (w : World) : (Go.method 296 109 (.agg #[h]) "Kind").run Tryz.prog w = .ok (124, h) w := by kernel_rfl
theorem aKindT (w : World) : ((ReflectliteType.abiMethod fun t => (fun a : Nat => Value.int IntKind.u8 (a : Int)) <$> Rtype.kind t) #[.pointer (some ⟨12, 65, none⟩)]).run Tryz.prog w = .ok (.int .u8 22) w := by kernel_rfl
theorem aKindF (w : World) : ((ReflectliteType.abiMethod fun t => (fun a : Nat => Value.int IntKind.u8 (a : Int)) <$> Rtype.kind t) #[.pointer (some ⟨12, 63, none⟩)]).run Tryz.prog w = .ok (.int .u8 22) w := by kernel_rfl
theorem arlm (z : Sem Value) (f : TypeId → Addr → Nat → Nat → Sem Value) (v : Value) :
    ReflectliteValue.method z f #[v] = (do match ← ReflectliteValue.parts v with | none => z | some (t, a, fl) => f t a fl (fl % 32)) := rfl
theorem aPartsT (a : Addr) (w : World) : (ReflectliteValue.parts (.agg #[.pointer (some ⟨12, 65, none⟩), .pointer (some a), .int .u64 150])).run Tryz.prog w = .ok (some (65, a, 150)) w := by kernel_rfl
theorem aIsNilT (a p : Addr) (W : World) (ha : W.cell? a = some (.pointer (some p))) :
    (ReflectliteValue.method (ReflectliteValue.valueError "reflectlite.Value.IsNil" 0) ReflectliteValue.isNil #[.agg #[.pointer (some ⟨12, 65, none⟩), .pointer (some a), .int .u64 150]]).run Tryz.prog W = .ok (.bool false) W := by
  rw [arlm]
  simp only [Sem.run_bind, aPartsT, Result.andThen]
  simp [ReflectliteValue.isNil, loadVar, isAgg, underlying, Tryz.underlying65, ha, Result.andThen]
theorem aMethodElem (h : Value) (w : World) : (Go.method 296 109 (.agg #[h]) "Elem").run Tryz.prog w = .ok (136, .agg #[h]) w := by kernel_rfl
theorem aMethodImpl (h : Value) (w : World) : (Go.method 296 109 (.agg #[h]) "Implements").run Tryz.prog w = .ok (137, .agg #[h]) w := by kernel_rfl
theorem aMethodAssign (h : Value) (w : World) : (Go.method 296 109 (.agg #[h]) "AssignableTo").run Tryz.prog w = .ok (134, .agg #[h]) w := by kernel_rfl
theorem aElemT (w : World) : (ReflectliteType.method ReflectliteType.elem #[.agg #[.pointer (some ⟨12, 65, none⟩)]]).run Tryz.prog w = .ok (.iface 109 (.agg #[.pointer (some ⟨12, 63, none⟩)])) w := by kernel_rfl
theorem aImplF (w : World) : (ReflectliteType.relation "Implements" ReflectliteType.implements_ #[.agg #[.pointer (some ⟨12, 63, none⟩)], .iface 109 (.agg #[.pointer (some ⟨12, 32, none⟩)])]).run Tryz.prog w = .ok (.bool true) w := by kernel_rfl
theorem aTypeOfF (v : Value) (w : World) : (ReflectliteType.typeOf #[.iface 63 v]).run Tryz.prog w = .ok (.iface 109 (.agg #[.pointer (some ⟨12, 63, none⟩)])) w := by kernel_rfl
theorem aAssignF (w : World) : (ReflectliteType.relation "AssignableTo" ReflectliteType.assignableTo #[.agg #[.pointer (some ⟨12, 63, none⟩)], .iface 109 (.agg #[.pointer (some ⟨12, 63, none⟩)])]).run Tryz.prog w = .ok (.bool true) w := by kernel_rfl
theorem aAssignE (w : World) : (ReflectliteType.relation "AssignableTo" ReflectliteType.assignableTo #[.agg #[.pointer (some ⟨12, 166, none⟩)], .iface 109 (.agg #[.pointer (some ⟨12, 63, none⟩)])]).run Tryz.prog w = .ok (.bool false) w := by kernel_rfl
theorem aNoAsE (v : Value) (xT : TypeId) (w : World) : (Instr.typeAssert (.iface 166 v) xT 113 true).run Tryz.prog w = .ok (.tuple #[.nilIface, .bool false]) w := run_typeAssert_lacksB Tryz.underlying113 (by kernel_rfl) (by kernel_rfl) v xT w
theorem aValueOfF (e : Addr) (w : World) : (ReflectliteValue.unpack (.iface 63 (.pointer (some e)))).run Tryz.prog w
    = .ok (.agg #[.pointer (some ⟨12, 63, none⟩), .pointer (some ⟨w.heap.size, 0, none⟩), .int .u64 150]) (w.alloc (.cells #[.pointer (some e)] 63)) := by kernel_rfl
theorem aElemOfT (w : World) : (Rtype.elem? 65).run Tryz.prog w = .ok (some 63) w := by kernel_rfl
theorem aMkF (p : Addr) (w : World) : (ReflectliteValue.mk 63 p ReflectliteValue.flagAddr).run Tryz.prog w = .ok (.agg #[.pointer (some ⟨12, 63, none⟩), .pointer (some p), .int .u64 406]) w := by kernel_rfl
theorem aElemVT (a p : Addr) (W : World) (ha : W.cell? a = some (.pointer (some p))) :
    (ReflectliteValue.method (ReflectliteValue.valueError "reflectlite.Value.Elem" 0) ReflectliteValue.elem #[.agg #[.pointer (some ⟨12, 65, none⟩), .pointer (some a), .int .u64 150]]).run Tryz.prog W
      = .ok (.agg #[.pointer (some ⟨12, 63, none⟩), .pointer (some p), .int .u64 406]) W := by
  rw [arlm]
  simp only [Sem.run_bind, aPartsT, Result.andThen]
  simp [ReflectliteValue.elem, loadVar, isAgg, underlying, Tryz.underlying65, ha, Result.andThen, aElemOfT, aMkF]
theorem arls (v x : Value) : ReflectliteValue.set #[v, x] = (do
    let (some (dst, a, fl), some (src, b, _)) := (← ReflectliteValue.parts v, ← ReflectliteValue.parts x)
      | unsupported (.noEntry "extern/(internal/reflectlite.Value).Set.zeroValue")
    if fl / ReflectliteValue.flagAddr % 2 == 0 then unsupported (.noEntry "extern/(internal/reflectlite.Value).Set.unaddressable")
    let val ← loadVar src b
    if ← Rtype.directlyAssignable dst src then storeVar dst a val
    else if ← Rtype.implements dst src then
      if (← Rtype.kind src) == 20 then
        match val with
        | .nilIface => unsupported (.noEntry "extern/reflectlite: a nil value of one interface type handed on as a value of another")
        | _ => storeVar dst a val
      else storeVar dst a (.iface src val)
    else panicString ("reflectlite.Set: value of type " ++ (← Rtype.spelt src) ++ " is not assignable to type " ++ (← Rtype.spelt dst))
    pure (.tuple #[])) := rfl
theorem aPartsFa (a : Addr) (w : World) : (ReflectliteValue.parts (.agg #[.pointer (some ⟨12, 63, none⟩), .pointer (some a), .int .u64 406])).run Tryz.prog w = .ok (some (63, a, 406)) w := by kernel_rfl
theorem aPartsF (a : Addr) (w : World) : (ReflectliteValue.parts (.agg #[.pointer (some ⟨12, 63, none⟩), .pointer (some a), .int .u64 150])).run Tryz.prog w = .ok (some (63, a, 150)) w := by kernel_rfl
theorem aDirectF (w : World) : (Rtype.directlyAssignable 63 63).run Tryz.prog w = .ok true w := by kernel_rfl
theorem aSetF (ta b e : Addr) (old : Value) (W : World) (hb : W.cell? b = some (.pointer (some e))) (ht : W.cell? ta = some old) (hf : W.frozen? ta = false) :
    (ReflectliteValue.set #[.agg #[.pointer (some ⟨12, 63, none⟩), .pointer (some ta), .int .u64 406], .agg #[.pointer (some ⟨12, 63, none⟩), .pointer (some b), .int .u64 150]]).run Tryz.prog W
      = .ok (.tuple #[]) (W.setCell ta (.pointer (some e))) := by
  rw [arls]
  simp only [Sem.run_bind, aPartsFa, aPartsF, Result.andThen]
  simp [ReflectliteValue.flagAddr, loadVar, isAgg, underlying, Tryz.underlying63, hb, Result.andThen, aDirectF, storeVar, Value.cells, storeCells, Addr.add]
  rw [run_store Tryz.prog W ta _ _ (by rfl)]
  simp [ht, hf]

set_option maxHeartbeats 4000000 in
theorem as_miss (a t : Addr) (w : World) (hg : w.cell? ⟨7, 0, none⟩ = some (.iface 109 (.agg #[.pointer (some ⟨12, 32, none⟩)]))) :
    Calls Tryz.prog 32 #[.iface 166 (.pointer (some a)), .iface 65 (.pointer (some t))] w fun ev w' => ev = .returned (.bool false) ∧ Below w.heap.size w w' := by
  have hValueOf := @run_callFunc_extern Tryz.prog 46 _ (fun args => ReflectliteValue.unpack (args.getD 0 (.tuple #[]))) Tryz.func46 (by kernel_rfl) (by kernel_rfl) (by kernel_rfl) (by kernel_rfl)
  have hType := @run_callFunc_extern Tryz.prog 47 _ (ReflectliteValue.methodAny (ReflectliteValue.valueError "reflectlite.Value.Type" 0) (fun t _ _ _ => ReflectliteType.toType t)) Tryz.func47 (by kernel_rfl) (by kernel_rfl) (by kernel_rfl) (by kernel_rfl)
  have hIsNil := @run_callFunc_extern Tryz.prog 48 _ (ReflectliteValue.method (ReflectliteValue.valueError "reflectlite.Value.IsNil" 0) ReflectliteValue.isNil) Tryz.func48 (by kernel_rfl) (by kernel_rfl) (by kernel_rfl) (by kernel_rfl)
  have hKind := @run_callFunc_extern Tryz.prog 124 _ (ReflectliteType.abiMethod fun t => do pure (.int .u8 (← Rtype.kind t))) Tryz.func124 (by kernel_rfl) (by kernel_rfl) (by kernel_rfl) (by kernel_rfl)
  have hTElem := @run_callFunc_extern Tryz.prog 136 _ (ReflectliteType.method ReflectliteType.elem) Tryz.func136 (by kernel_rfl) (by kernel_rfl) (by kernel_rfl) (by kernel_rfl)
  have hImpl := @run_callFunc_extern Tryz.prog 137 _ (ReflectliteType.relation "Implements" ReflectliteType.implements_) Tryz.func137 (by kernel_rfl) (by kernel_rfl) (by kernel_rfl) (by kernel_rfl)
  have hTypeOf := @run_callFunc_extern Tryz.prog 50 _ ReflectliteType.typeOf Tryz.func50 (by kernel_rfl) (by kernel_rfl) (by kernel_rfl) (by kernel_rfl)
  have hAssign := @run_callFunc_extern Tryz.prog 134 _ (ReflectliteType.relation "AssignableTo" ReflectliteType.assignableTo) Tryz.func134 (by kernel_rfl) (by kernel_rfl) (by kernel_rfl) (by kernel_rfl)
  have hVElem := @run_callFunc_extern Tryz.prog 65 _ (ReflectliteValue.method (ReflectliteValue.valueError "reflectlite.Value.Elem" 0) ReflectliteValue.elem) Tryz.func65 (by kernel_rfl) (by kernel_rfl) (by kernel_rfl) (by kernel_rfl)
  have hSet := @run_callFunc_extern Tryz.prog 66 _ ReflectliteValue.set Tryz.func66 (by kernel_rfl) (by kernel_rfl) (by kernel_rfl) (by kernel_rfl)
  have y_aTypeOfF := aTypeOfF
  have y_aMethodAssign := aMethodAssign
  have y_aAssignF := aAssignF
  have y_aAssignE := aAssignE
  have y_aValueOfF := aValueOfF
  have y_aValueOfT := aValueOfT
  have y_aTypeT := aTypeT
  have y_aMethodKind := aMethodKind
  have y_aMethodElem := aMethodElem
  have y_aMethodImpl := aMethodImpl
  have y_aKindT := aKindT
  have y_aKindF := aKindF
  have y_aElemT := aElemT
  have y_aImplF := aImplF
  have y_isTypeOf := isTypeOf
  have y_aNoAsE := aNoAsE
  have y_noUnwrapE := noUnwrapE
  have y_noUnwrapsE := noUnwrapsE
  have n8 := aIsNilT ⟨w.heap.size, 0, none⟩ t ((w.alloc (.cells #[.pointer (some t)] 65)).alloc (.cells #[.pointer (some ⟨12, 65, none⟩), .pointer (some ⟨w.heap.size, 0, none⟩), .int .u64 150] 86)) (by simp)
  have hlt : 7 < w.heap.size := by
    rcases Nat.lt_or_ge 7 w.heap.size with h | h
    · exact h
    · simp [World.cell?, Array.getElem?_eq_none h] at hg
  have hg2 : ((w.alloc (.cells #[.pointer (some t)] 65)).alloc (.cells #[.pointer (some ⟨12, 65, none⟩), .pointer (some ⟨w.heap.size, 0, none⟩), .int .u64 150] 86)).cell? ⟨7, 0, none⟩ = some (.iface 109 (.agg #[.pointer (some ⟨12, 32, none⟩)])) := by
    rw [World.cell?_alloc_lt _ _ ⟨7, 0, none⟩ (by simp; omega), World.cell?_alloc_lt _ _ ⟨7, 0, none⟩ hlt]; exact hg
  go_enter Tryz.func32, Tryz.ntmps32
  go_wp2
  refine wp_loop_rounds 1 ?_
  rw [rounds_succ]
  go_wp2
  go_ret
  exact ⟨rfl, (((Below.refl _ w).alloc (by simp) _).alloc (by simp <;> omega) _).alloc (by simp <;> omega) _⟩

set_option maxHeartbeats 4000000 in
theorem as_hit (e t : Addr) (old : Value) (w : World) (hg : w.cell? ⟨7, 0, none⟩ = some (.iface 109 (.agg #[.pointer (some ⟨12, 32, none⟩)]))) (ht0 : w.cell? t = some old) (hf0 : w.frozen? t = false) :
    Calls Tryz.prog 32 #[.iface 63 (.pointer (some e)), .iface 65 (.pointer (some t))] w fun ev w' => ev = .returned (.bool true) ∧ w' = ((((w.alloc (.cells #[.pointer (some t)] 65)).alloc (.cells #[.pointer (some ⟨12, 65, none⟩), .pointer (some ⟨w.heap.size, 0, none⟩), .int .u64 150] 86)).alloc (.cells #[.pointer (some ⟨12, 65, none⟩), .pointer (some ⟨w.heap.size, 0, none⟩), .int .u64 150] 86)).alloc (.cells #[.pointer (some e)] 63)).setCell t (.pointer (some e)) := by
  have hValueOf := @run_callFunc_extern Tryz.prog 46 _ (fun args => ReflectliteValue.unpack (args.getD 0 (.tuple #[]))) Tryz.func46 (by kernel_rfl) (by kernel_rfl) (by kernel_rfl) (by kernel_rfl)
  have hType := @run_callFunc_extern Tryz.prog 47 _ (ReflectliteValue.methodAny (ReflectliteValue.valueError "reflectlite.Value.Type" 0) (fun t _ _ _ => ReflectliteType.toType t)) Tryz.func47 (by kernel_rfl) (by kernel_rfl) (by kernel_rfl) (by kernel_rfl)
  have hIsNil := @run_callFunc_extern Tryz.prog 48 _ (ReflectliteValue.method (ReflectliteValue.valueError "reflectlite.Value.IsNil" 0) ReflectliteValue.isNil) Tryz.func48 (by kernel_rfl) (by kernel_rfl) (by kernel_rfl) (by kernel_rfl)
  have hKind := @run_callFunc_extern Tryz.prog 124 _ (ReflectliteType.abiMethod fun t => do pure (.int .u8 (← Rtype.kind t))) Tryz.func124 (by kernel_rfl) (by kernel_rfl) (by kernel_rfl) (by kernel_rfl)
  have hTElem := @run_callFunc_extern Tryz.prog 136 _ (ReflectliteType.method ReflectliteType.elem) Tryz.func136 (by kernel_rfl) (by kernel_rfl) (by kernel_rfl) (by kernel_rfl)
  have hImpl := @run_callFunc_extern Tryz.prog 137 _ (ReflectliteType.relation "Implements" ReflectliteType.implements_) Tryz.func137 (by kernel_rfl) (by kernel_rfl) (by kernel_rfl) (by kernel_rfl)
  have hTypeOf := @run_callFunc_extern Tryz.prog 50 _ ReflectliteType.typeOf Tryz.func50 (by kernel_rfl) (by kernel_rfl) (by kernel_rfl) (by kernel_rfl)
  have hAssign := @run_callFunc_extern Tryz.prog 134 _ (ReflectliteType.relation "AssignableTo" ReflectliteType.assignableTo) Tryz.func134 (by kernel_rfl) (by kernel_rfl) (by kernel_rfl) (by kernel_rfl)
  have hVElem := @run_callFunc_extern Tryz.prog 65 _ (ReflectliteValue.method (ReflectliteValue.valueError "reflectlite.Value.Elem" 0) ReflectliteValue.elem) Tryz.func65 (by kernel_rfl) (by kernel_rfl) (by kernel_rfl) (by kernel_rfl)
  have hSet := @run_callFunc_extern Tryz.prog 66 _ ReflectliteValue.set Tryz.func66 (by kernel_rfl) (by kernel_rfl) (by kernel_rfl) (by kernel_rfl)
  have y_aTypeOfF := aTypeOfF
  have y_aMethodAssign := aMethodAssign
  have y_aAssignF := aAssignF
  have y_aAssignE := aAssignE
  have y_aValueOfF := aValueOfF
  have y_aValueOfT := aValueOfT
  have y_aTypeT := aTypeT
  have y_aMethodKind := aMethodKind
  have y_aMethodElem := aMethodElem
  have y_aMethodImpl := aMethodImpl
  have y_aKindT := aKindT
  have y_aKindF := aKindF
  have y_aElemT := aElemT
  have y_aImplF := aImplF
  have y_isTypeOf := isTypeOf
  have y_aNoAsE := aNoAsE
  have y_noUnwrapE := noUnwrapE
  have y_noUnwrapsE := noUnwrapsE
  have n8 := aIsNilT ⟨w.heap.size, 0, none⟩ t ((w.alloc (.cells #[.pointer (some t)] 65)).alloc (.cells #[.pointer (some ⟨12, 65, none⟩), .pointer (some ⟨w.heap.size, 0, none⟩), .int .u64 150] 86)) (by simp)
  have hlt : 7 < w.heap.size := by
    rcases Nat.lt_or_ge 7 w.heap.size with h | h
    · exact h
    · simp [World.cell?, Array.getElem?_eq_none h] at hg
  have hg2 : ((w.alloc (.cells #[.pointer (some t)] 65)).alloc (.cells #[.pointer (some ⟨12, 65, none⟩), .pointer (some ⟨w.heap.size, 0, none⟩), .int .u64 150] 86)).cell? ⟨7, 0, none⟩ = some (.iface 109 (.agg #[.pointer (some ⟨12, 32, none⟩)])) := by
    rw [World.cell?_alloc_lt _ _ ⟨7, 0, none⟩ (by simp; omega), World.cell?_alloc_lt _ _ ⟨7, 0, none⟩ hlt]; exact hg
  have htl : t.block < w.heap.size := by
    rcases Nat.lt_or_ge t.block w.heap.size with h | h
    · exact h
    · simp [World.cell?, Array.getElem?_eq_none h] at ht0
  have el := aElemVT ⟨w.heap.size, 0, none⟩ t (((w.alloc (.cells #[.pointer (some t)] 65)).alloc (.cells #[.pointer (some ⟨12, 65, none⟩), .pointer (some ⟨w.heap.size, 0, none⟩), .int .u64 150] 86)).alloc (.cells #[.pointer (some ⟨12, 65, none⟩), .pointer (some ⟨w.heap.size, 0, none⟩), .int .u64 150] 86)) (by rw [World.cell?_alloc_lt _ _ ⟨w.heap.size, 0, none⟩ (by simp; omega)]; simp)
  have st := aSetF t ⟨w.heap.size + 1 + 1 + 1, 0, none⟩ e old ((((w.alloc (.cells #[.pointer (some t)] 65)).alloc (.cells #[.pointer (some ⟨12, 65, none⟩), .pointer (some ⟨w.heap.size, 0, none⟩), .int .u64 150] 86)).alloc (.cells #[.pointer (some ⟨12, 65, none⟩), .pointer (some ⟨w.heap.size, 0, none⟩), .int .u64 150] 86)).alloc (.cells #[.pointer (some e)] 63))
    (by rw [World.cell?_alloc_at _ _ _ _ (by simp)]; rfl)
    (by rw [World.cell?_alloc_lt _ _ t (by simp; omega), World.cell?_alloc_lt _ _ t (by simp; omega), World.cell?_alloc_lt _ _ t (by simp; omega), World.cell?_alloc_lt _ _ t htl]; exact ht0)
    (by rw [World.frozen?_alloc_old _ _ t (by simp; omega), World.frozen?_alloc_old _ _ t (by simp; omega), World.frozen?_alloc_old _ _ t (by simp; omega), World.frozen?_alloc_old _ _ t (Nat.ne_of_lt htl)]; exact hf0)
  go_enter Tryz.func32, Tryz.ntmps32
  go_wp2
  refine wp_loop_rounds 1 ?_
  rw [rounds_succ]
  go_wp2
  go_ret
  exact ⟨rfl, rfl⟩
end Go.Proofs.YtaachamblagbhaaGreatDoor
namespace Go.Proofs.YtaachamblagbhaaGreatDoor
open Go.RowKit BigFrame
set_option linter.unusedVariables false
set_option linter.unusedSimpArgs false
set_option maxRecDepth 100000

/-- An error of errors.New's make. -/
abbrev ew (a : Addr) : Value := .iface 166 (.pointer (some a))
/-- The package-level variables of the seven errors, in their numbers' order. -/
def evar : Nat → Nat
  | 0 => 0
  | 1 => 1
  | 2 => 2
  | 3 => 3
  | 4 => 4
  | 5 => 5
  | _ => 6
abbrev handleE : Value := .iface 109 (.agg #[.pointer (some ⟨12, 32, none⟩)])
/-- The variables hold seven errors, each apart from the others; and errors.errorType the handle of 'error'. -/
structure ErW (w : World) (B : Nat) (E : Nat → Addr) : Prop where
  g : ∀ i, i < 7 → w.cell? ⟨evar i, 0, none⟩ = some (ew (E i))
  b : ∀ i, i < 7 → (E i).block < B ∧ ∃ c t, w.heap[(E i).block]? = some (.cells c t (0, 0))
  ne : ∀ i j, i < 7 → j < 7 → i ≠ j → E i ≠ E j
  h : w.cell? ⟨7, 0, none⟩ = some handleE
  gl : ∀ i, i < 7 → evar i < B
  hl : 7 < B
theorem ErW.below {w w' : World} {B : Nat} {E : Nat → Addr} (h : ErW w B E) (hb : Below B w w') : ErW w' B E :=
  ⟨fun i hi => (hb.cell (p := ⟨evar i, 0, none⟩) (h.gl i hi)).trans (h.g i hi),
   fun i hi => ⟨(h.b i hi).1, by obtain ⟨h1, c, t, h2⟩ := h.b i hi; exact ⟨c, t, (hb.block _ h1).trans h2⟩⟩, h.ne,
   (hb.cell (p := ⟨7, 0, none⟩) h.hl).trans h.h, h.gl, h.hl⟩
theorem ErW.more {w : World} {B B' : Nat} {E : Nat → Addr} (h : ErW w B E) (hB : B ≤ B') : ErW w B' E :=
  ⟨h.g, fun i hi => ⟨Nat.lt_of_lt_of_le (h.b i hi).1 hB, (h.b i hi).2⟩, h.ne, h.h, fun i hi => Nat.lt_of_lt_of_le (h.gl i hi) hB, Nat.lt_of_lt_of_le h.hl hB⟩

theorem code_nil (w : World) : Calls Tryz.prog 17 #[.nilIface] w fun e w' => e = .returned (.tuple #[.int .i64 0, .int .i64 (-1)]) ∧ w' = w := by
  go_enter Tryz.func17, Tryz.ntmps17
  go_wp2
  go_ret2
  exact ⟨rfl, rfl⟩
/-- The seven in a row of their own. -/
def seven (E : Nat → Addr) : List Value := [ew (E 0), ew (E 1), ew (E 2), ew (E 3), ew (E 4), ew (E 5), ew (E 6)]
theorem seven_at (E : Nat → Addr) : ∀ k, k < 7 → (seven E)[k]? = some (ew (E k))
  | 0, _ => rfl
  | 1, _ => rfl
  | 2, _ => rfl
  | 3, _ => rfl
  | 4, _ => rfl
  | 5, _ => rfl
  | 6, _ => rfl
theorem is_at {w : World} {B : Nat} {E : Nat → Addr} (h : ErW w B E) {i k : Nat} (hi : i < 7) (hk : k < 7) :
    Calls Tryz.prog 33 #[ew (E i), ew (E k)] w fun e w' => e = .returned (.bool (decide (i = k))) ∧ w' = w := by
  by_cases q : i = k
  · subst q
    rw [decide_eq_true rfl]
    exact is_same _ _
  · rw [decide_eq_false q]
    obtain ⟨_, c1, t1, h1⟩ := h.b i hi
    obtain ⟨_, c2, t2, h2⟩ := h.b k hk
    exact is_other _ _ _ _ _ _ _ (h.ne i k hi hk q) h1 h2
theorem is_fault {w : World} {B : Nat} {E : Nat → Addr} (h : ErW w B E) {i k : Nat} (hi : i < 7) (hk : k < 7) {pb po : Nat} (hc : w.cell? ⟨pb, po, none⟩ = some (ew (E i))) :
    Calls Tryz.prog 33 #[.iface 63 (.pointer (some ⟨pb, po, none⟩)), ew (E k)] w fun e w' => e = .returned (.bool (decide (i = k))) ∧ w' = w := by
  by_cases q : i = k
  · subst q
    rw [decide_eq_true rfl]
    exact is_wrap_same _ _ _ _ hc
  · rw [decide_eq_false q]
    obtain ⟨_, c1, t1, h1⟩ := h.b i hi
    obtain ⟨_, c2, t2, h2⟩ := h.b k hk
    exact is_wrap_other _ _ _ _ _ _ _ _ _ hc (h.ne i k hi hk q) h1 h2

set_option maxHeartbeats 2000000 in
theorem code_err (i : Nat) (hi : i < 7) (w : World) (B : Nat) (hB : B ≤ w.heap.size) (E : Nat → Addr) (hE : ErW w B E) :
    Calls Tryz.prog 17 #[ew (E i)] w fun e w' => e = .returned (.tuple #[.int .i64 ((i : Int) + 1), .int .i64 (-1)]) ∧ Below w.heap.size w w' := by
  obtain ⟨w1, hw1⟩ : ∃ w1, w1 = w.alloc (.cells #[.pointer none] 63) := ⟨_, rfl⟩
  have hb1 : Below w.heap.size w w1 := by rw [hw1]; exact (Below.refl _ w).alloc (Nat.le_refl _) _
  have hs1 : w1.heap.size = w.heap.size + 1 := by rw [hw1]; simp
  have hE1 := hE.below (hb1.mono hB)
  have hz : w.heap.size < w1.heap.size := by omega
  have HA := Lib.hid (as_miss (E i) ⟨w.heap.size, 0, none⟩ w1 hE1.h)
  have HE := Lib.hid hE1; have HB1 := Lib.hid hb1
  clear hE1 hb1 hE
  have hn : ((7 : Int) = 7) := rfl
  clear hn
  go_enter Tryz.func17, Tryz.ntmps17
  go_wp2_with fail
  rw [← hw1]
  refine HA.out.mono ?_
  rintro e w2 ⟨rfl, hb2⟩
  have HB2 := Lib.hid (hb2.mono (show w.heap.size ≤ w1.heap.size by omega))
  clear hb2 HA
  have hE2 := HE.out.below (HB2.out.mono hB)
  have HE2 := Lib.hid hE2
  have g0 : w2.cell? ⟨0, 0, none⟩ = some (ew (E 0)) := hE2.g 0 (by decide)
  have g1 : w2.cell? ⟨1, 0, none⟩ = some (ew (E 1)) := hE2.g 1 (by decide)
  have g2 : w2.cell? ⟨2, 0, none⟩ = some (ew (E 2)) := hE2.g 2 (by decide)
  have g3 : w2.cell? ⟨3, 0, none⟩ = some (ew (E 3)) := hE2.g 3 (by decide)
  have g4 : w2.cell? ⟨4, 0, none⟩ = some (ew (E 4)) := hE2.g 4 (by decide)
  have g5 : w2.cell? ⟨5, 0, none⟩ = some (ew (E 5)) := hE2.g 5 (by decide)
  have g6 : w2.cell? ⟨6, 0, none⟩ = some (ew (E 6)) := hE2.g 6 (by decide)
  have HG := Lib.hid (show ∀ j, j < 7 → (w2.alloc (.cells (seven E).toArray 32)).cell? ⟨w2.heap.size, j, none⟩ = some (ew (E j)) from fun j hj => (Blk.new w2 32 (seven E)).cell (seven_at E j hj))
  have hs2 := HB2.out.size
  have HB3 := Lib.hid ((HB1.out.trans HB2.out).alloc (by omega) (.cells (seven E).toArray 32))
  have HE3 := Lib.hid (HE2.out.below (B := B) (((Below.refl B w2).alloc (by omega) (.cells (seven E).toArray 32))))
  clear hE2 HE HE2
  go_wp2_with fail
  change Code.wp _ _ _ _ (w2.alloc (.cells (seven E).toArray 32))
  generalize w2.alloc (.cells (seven E).toArray 32) = w3 at *
  go_loop [26] (fun x => ∃ k : Nat, k ≤ i ∧ x = .int .i64 (k : Int)) (fun x => i - (intOf x).toNat)
  case atStart => exact ⟨0, Nat.zero_le _, rfl⟩
  case round =>
    obtain ⟨k, hk, rfl⟩ := hrel
    have zk := HG.out k (by omega)
    have hk7 : k < 7 := by omega
    have hi' := is_at HE3.out hi hk7
    by_cases q : i = k
    · rw [decide_eq_true q] at hi'
      subst q
      have HI := Lib.hid hi'
      clear hi'
      go_wp2_with fail
      refine HI.out.mono ?_
      rintro e w4 ⟨rfl, rfl⟩
      go_wp2_with fail
      go_ret2
      exact ⟨rfl, HB3.out⟩
    · rw [decide_eq_false q] at hi'
      have HI := Lib.hid hi'
      have hki : k < i := by omega
      clear hi' q
      go_wp2_with fail
      refine HI.out.mono ?_
      rintro e w4 ⟨rfl, rfl⟩
      go_wp2_with fail
      go_round
      case rel => exact ⟨k + 1, by omega, by go_num⟩
      case measure => simp [intOf]; omega

set_option maxHeartbeats 2000000 in
theorem code_fault (i : Nat) (hi : i < 7) (w : World) (B : Nat) (hB : B ≤ w.heap.size) (E : Nat → Addr) (hE : ErW w B E) (pb po : Nat) (at_ : Int) (hpb : pb < w.heap.size) (hc0 : w.cell? ⟨pb, po, none⟩ = some (ew (E i))) (hc1 : w.cell? ⟨pb, po + 1, none⟩ = some (.int .i64 at_)) :
    Calls Tryz.prog 17 #[.iface 63 (.pointer (some ⟨pb, po, none⟩))] w fun e w' => e = .returned (.tuple #[.int .i64 ((i : Int) + 1), .int .i64 (at_)]) ∧ Below w.heap.size w w' := by
  obtain ⟨w1, hw1⟩ : ∃ w1, w1 = w.alloc (.cells #[.pointer none] 63) := ⟨_, rfl⟩
  have hb1 : Below w.heap.size w w1 := by rw [hw1]; exact (Below.refl _ w).alloc (Nat.le_refl _) _
  have hs1 : w1.heap.size = w.heap.size + 1 := by rw [hw1]; simp
  have hE1 := hE.below (hb1.mono hB)
  have hz : w.heap.size < w1.heap.size := by omega
  have z0 := (hb1.cell (p := ⟨pb, po, none⟩) hpb).trans hc0
  have z1 := (hb1.cell (p := ⟨pb, po + 1, none⟩) hpb).trans hc1
  have hblk : Blk w1 w.heap.size 63 [.pointer none] := by rw [hw1]; exact Blk.new _ _ _
  have HA := Lib.hid (as_hit ⟨pb, po, none⟩ ⟨w.heap.size, 0, none⟩ (.pointer none) w1 hE1.h (hblk.cell rfl) (hblk.frozen 0))
  have hb2 : Below w1.heap.size w1 ((((w1.alloc (.cells #[.pointer (some ⟨w.heap.size, 0, none⟩)] 65)).alloc (.cells #[.pointer (some ⟨12, 65, none⟩), .pointer (some ⟨w1.heap.size, 0, none⟩), .int .u64 150] 86)).alloc (.cells #[.pointer (some ⟨12, 65, none⟩), .pointer (some ⟨w1.heap.size, 0, none⟩), .int .u64 150] 86)).alloc (.cells #[.pointer (some ⟨pb, po, none⟩)] 63)) :=
    ((((Below.refl _ w1).alloc (by simp) _).alloc (by simp <;> omega) _).alloc (by simp <;> omega) _).alloc (by simp <;> omega) _
  have hb3 := Blk.below' hblk hb2
  obtain ⟨w2, hw2⟩ : ∃ w2, w2 = (((((w1.alloc (.cells #[.pointer (some ⟨w.heap.size, 0, none⟩)] 65)).alloc (.cells #[.pointer (some ⟨12, 65, none⟩), .pointer (some ⟨w1.heap.size, 0, none⟩), .int .u64 150] 86)).alloc (.cells #[.pointer (some ⟨12, 65, none⟩), .pointer (some ⟨w1.heap.size, 0, none⟩), .int .u64 150] 86)).alloc (.cells #[.pointer (some ⟨pb, po, none⟩)] 63))).setCell ⟨w.heap.size, 0, none⟩ (.pointer (some ⟨pb, po, none⟩)) := ⟨_, rfl⟩
  have hq : Below w.heap.size w1 w2 := by rw [hw2]; exact (hb2.mono (by omega)).setCell (by simp) _
  have hcf : w2.cell? ⟨w.heap.size, 0, none⟩ = some (.pointer (some ⟨pb, po, none⟩)) := by rw [hw2]; exact (hb3.set_ 0 _).cell rfl
  have y0 := (hq.cell (p := ⟨pb, po, none⟩) hpb).trans z0
  have y1 := (hq.cell (p := ⟨pb, po + 1, none⟩) hpb).trans z1
  have HY0 := Lib.hid y0
  clear z0 z1 hblk hb2 hb3 hc0 hc1
  rw [← hw2] at HA
  have HE := Lib.hid hE1; have HB1 := Lib.hid hb1
  clear hE1 hb1 hE hw2
  have hn : ((7 : Int) = 7) := rfl
  clear hn
  go_enter Tryz.func17, Tryz.ntmps17
  go_wp2_with fail
  rw [← hw1]
  refine HA.out.mono ?_
  rintro e w2' ⟨rfl, hw⟩
  have hw3 := hw.symm
  subst hw3
  have HB2 := Lib.hid hq
  clear hq HA
  have hE2 := HE.out.below (HB2.out.mono hB)
  have HE2 := Lib.hid hE2
  have g0 : w2.cell? ⟨0, 0, none⟩ = some (ew (E 0)) := hE2.g 0 (by decide)
  have g1 : w2.cell? ⟨1, 0, none⟩ = some (ew (E 1)) := hE2.g 1 (by decide)
  have g2 : w2.cell? ⟨2, 0, none⟩ = some (ew (E 2)) := hE2.g 2 (by decide)
  have g3 : w2.cell? ⟨3, 0, none⟩ = some (ew (E 3)) := hE2.g 3 (by decide)
  have g4 : w2.cell? ⟨4, 0, none⟩ = some (ew (E 4)) := hE2.g 4 (by decide)
  have g5 : w2.cell? ⟨5, 0, none⟩ = some (ew (E 5)) := hE2.g 5 (by decide)
  have g6 : w2.cell? ⟨6, 0, none⟩ = some (ew (E 6)) := hE2.g 6 (by decide)
  have HG := Lib.hid (show ∀ j, j < 7 → (w2.alloc (.cells (seven E).toArray 32)).cell? ⟨w2.heap.size, j, none⟩ = some (ew (E j)) from fun j hj => (Blk.new w2 32 (seven E)).cell (seven_at E j hj))
  have hs2 := HB2.out.size
  have HB3 := Lib.hid ((HB1.out.trans HB2.out).alloc (by omega) (.cells (seven E).toArray 32))
  have HE3 := Lib.hid (HE2.out.below (B := B) (((Below.refl B w2).alloc (by omega) (.cells (seven E).toArray 32))))
  have HY3 := Lib.hid (((Below.refl w2.heap.size w2).alloc (Nat.le_refl _) (.cells (seven E).toArray 32)).cell (p := ⟨pb, po, none⟩) (show pb < w2.heap.size by omega) |>.trans HY0.out)
  clear hE2 HE HE2
  go_wp2_with fail
  change Code.wp _ _ _ _ (w2.alloc (.cells (seven E).toArray 32))
  generalize w2.alloc (.cells (seven E).toArray 32) = w3 at *
  go_loop [26] (fun x => ∃ k : Nat, k ≤ i ∧ x = .int .i64 (k : Int)) (fun x => i - (intOf x).toNat)
  case atStart => exact ⟨0, Nat.zero_le _, rfl⟩
  case round =>
    obtain ⟨k, hk, rfl⟩ := hrel
    have zk := HG.out k (by omega)
    have hk7 : k < 7 := by omega
    have hi' := is_fault HE3.out hi hk7 HY3.out
    by_cases q : i = k
    · rw [decide_eq_true q] at hi'
      subst q
      have HI := Lib.hid hi'
      clear hi'
      go_wp2_with fail
      refine HI.out.mono ?_
      rintro e w4 ⟨rfl, rfl⟩
      go_wp2_with fail
      go_ret2
      exact ⟨rfl, HB3.out⟩
    · rw [decide_eq_false q] at hi'
      have HI := Lib.hid hi'
      have hki : k < i := by omega
      clear hi' q
      go_wp2_with fail
      refine HI.out.mono ?_
      rintro e w4 ⟨rfl, rfl⟩
      go_wp2_with fail
      go_round
      case rel => exact ⟨k + 1, by omega, by go_num⟩
      case measure => simp [intOf]; omega
end Go.Proofs.YtaachamblagbhaaGreatDoor
