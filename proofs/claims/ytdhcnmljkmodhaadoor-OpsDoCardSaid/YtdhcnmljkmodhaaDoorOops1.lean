/- Entries of the model for internal/reflectlite at this program's types (after the worked text ToyasAs): *api.Errno, **oops.Fault, **oops.Place. -/
import Derived.Test.YtdhcnmljkmodhaaDoorRows
import Derived.Test.YtdhcnmljkmodhaaDoorMemB
import Derived.LaidEql
import Derived.Stop.Asserts
import Derived.RowKitTokens
namespace Go.Proofs.YtdhcnmljkmodhaaDoor
set_option linter.unusedSectionVars false
set_option linter.unusedVariables false
set_option linter.unusedSimpArgs false
open Go.RowKit Go.Extern.Stop Go.Stop Go.Extern

theorem rlm (z : Sem Value) (f : TypeId → Addr → Nat → Nat → Sem Value) (v : Value) :
    ReflectliteValue.method z f #[v] = (do match ← ReflectliteValue.parts v with | none => z | some (t, a, fl) => f t a fl (fl % 32)) := rfl
theorem rls (v x : Value) : ReflectliteValue.set #[v, x] = (do
    let (some (dst, a, fl), some (src, b, _)) := (← ReflectliteValue.parts v, ← ReflectliteValue.parts x)
      | unsupported (.noEntry "extern/(internal/reflectlite.Value).Set.zeroValue")
    if fl / ReflectliteValue.flagAddr % 2 == 0 then unsupported (.noEntry "extern/(internal/reflectlite.Value).Set.unaddressable")
    let val ← loadVar src b
    if ← Rtype.directlyAssignable dst src then storeVar dst a val
    else if ← Rtype.implements dst src then
      if (← Rtype.kind src) == 20 then
        match val with
        | .nilIface => unsupported (.noEntry "extern/reflectlite: a nil value of one interface type handed on as a value of another")
        | _ => storeVar dst a val
      else storeVar dst a (.iface src val)
    else panicString ("reflectlite.Set: value of type " ++ (← Rtype.spelt src) ++ " is not assignable to type " ++ (← Rtype.spelt dst))
    pure (.tuple #[])) := rfl
@[go_sem] theorem rl_methodKind (h : Value) (w : World) : (Go.method 251 105 (.agg #[h]) "Kind").run Tryd.prog w = .ok (84, h) w := by kernel_rfl
@[go_sem] theorem rl_methodElem (h : Value) (w : World) : (Go.method 251 105 (.agg #[h]) "Elem").run Tryd.prog w = .ok (98, .agg #[h]) w := by kernel_rfl
@[go_sem] theorem rl_methodImplements (h : Value) (w : World) : (Go.method 251 105 (.agg #[h]) "Implements").run Tryd.prog w = .ok (99, .agg #[h]) w := by kernel_rfl
@[go_sem] theorem rl_methodAssignableTo (h : Value) (w : World) : (Go.method 251 105 (.agg #[h]) "AssignableTo").run Tryd.prog w = .ok (96, .agg #[h]) w := by kernel_rfl
@[go_sem] theorem rl_valueOfPErrno (t : Addr) (w : World) : (ReflectliteValue.unpack (.iface 69 (.pointer (some t)))).run Tryd.prog w
    = .ok (.agg #[.pointer (some ⟨2, 69, none⟩), .pointer (some ⟨w.heap.size, 0, none⟩), .int .u64 150]) (w.alloc (.cells #[.pointer (some t)] 69)) := by kernel_rfl
@[go_sem] theorem rl_typeErrno (a : Addr) (w : World) : (ReflectliteValue.methodAny (ReflectliteValue.valueError "reflectlite.Value.Type" 0) (fun t _ _ _ => ReflectliteType.toType t) #[.agg #[.pointer (some ⟨2, 69, none⟩), .pointer (some a), .int .u64 150]]).run Tryd.prog w
    = .ok (.iface 105 (.agg #[.pointer (some ⟨2, 69, none⟩)])) w := by kernel_rfl
@[go_sem] theorem rl_kindPErrno (w : World) : ((ReflectliteType.abiMethod fun t => (fun a : Nat => Value.int IntKind.u8 (a : Int)) <$> Rtype.kind t) #[.pointer (some ⟨2, 69, none⟩)]).run Tryd.prog w = .ok (.int .u8 22) w := by kernel_rfl
@[go_sem] theorem rl_kindErrno (w : World) : ((ReflectliteType.abiMethod fun t => (fun a : Nat => Value.int IntKind.u8 (a : Int)) <$> Rtype.kind t) #[.pointer (some ⟨2, 49, none⟩)]).run Tryd.prog w = .ok (.int .u8 2) w := by kernel_rfl
theorem rl_partsErrno (a : Addr) (w : World) : (ReflectliteValue.parts (.agg #[.pointer (some ⟨2, 69, none⟩), .pointer (some a), .int .u64 150])).run Tryd.prog w = .ok (some (69, a, 150)) w := by kernel_rfl
theorem rl_isNilErrno (a p : Addr) (W : World) (ha : W.cell? a = some (.pointer (some p))) :
    (ReflectliteValue.method (ReflectliteValue.valueError "reflectlite.Value.IsNil" 0) ReflectliteValue.isNil #[.agg #[.pointer (some ⟨2, 69, none⟩), .pointer (some a), .int .u64 150]]).run Tryd.prog W = .ok (.bool false) W := by
  rw [rlm]
  simp only [Sem.run_bind, rl_partsErrno, Result.andThen]
  simp [ReflectliteValue.isNil, loadVar, isAgg, underlying, Tryd.underlying69, ha, Result.andThen]
@[go_sem] theorem rl_elemErrno (w : World) : (ReflectliteType.method ReflectliteType.elem #[.agg #[.pointer (some ⟨2, 69, none⟩)]]).run Tryd.prog w = .ok (.iface 105 (.agg #[.pointer (some ⟨2, 49, none⟩)])) w := by kernel_rfl
@[go_sem] theorem rl_implementsErrno (w : World) : (ReflectliteType.relation "Implements" ReflectliteType.implements_ #[.agg #[.pointer (some ⟨2, 49, none⟩)], .iface 105 (.agg #[.pointer (some ⟨2, 32, none⟩)])]).run Tryd.prog w = .ok (.bool true) w := by kernel_rfl
theorem rl_elemOfErrno (w : World) : (Rtype.elem? 69).run Tryd.prog w = .ok (some 49) w := by kernel_rfl
theorem rl_mkErrno (p : Addr) (w : World) : (ReflectliteValue.mk 49 p ReflectliteValue.flagAddr).run Tryd.prog w = .ok (.agg #[.pointer (some ⟨2, 49, none⟩), .pointer (some p), .int .u64 386]) w := by kernel_rfl
theorem rl_elemVErrno (a p : Addr) (W : World) (ha : W.cell? a = some (.pointer (some p))) :
    (ReflectliteValue.method (ReflectliteValue.valueError "reflectlite.Value.Elem" 0) ReflectliteValue.elem #[.agg #[.pointer (some ⟨2, 69, none⟩), .pointer (some a), .int .u64 150]]).run Tryd.prog W
      = .ok (.agg #[.pointer (some ⟨2, 49, none⟩), .pointer (some p), .int .u64 386]) W := by
  rw [rlm]
  simp only [Sem.run_bind, rl_partsErrno, Result.andThen]
  simp [ReflectliteValue.elem, loadVar, isAgg, underlying, Tryd.underlying69, ha, Result.andThen, rl_elemOfErrno, rl_mkErrno]
@[go_sem] theorem rl_valueOfErrno (x : Int) (w : World) : (ReflectliteValue.unpack (.iface 49 (.int .i64 x))).run Tryd.prog w
    = .ok (.agg #[.pointer (some ⟨2, 49, none⟩), .pointer (some ⟨w.heap.size, 0, none⟩), .int .u64 130]) (w.alloc (.cells #[.int .i64 x] 49)) := by kernel_rfl
theorem rl_partsAErrno (a : Addr) (w : World) : (ReflectliteValue.parts (.agg #[.pointer (some ⟨2, 49, none⟩), .pointer (some a), .int .u64 386])).run Tryd.prog w = .ok (some (49, a, 386)) w := by kernel_rfl
theorem rl_partsSErrno (a : Addr) (w : World) : (ReflectliteValue.parts (.agg #[.pointer (some ⟨2, 49, none⟩), .pointer (some a), .int .u64 130])).run Tryd.prog w = .ok (some (49, a, 130)) w := by kernel_rfl
theorem rl_directErrno (w : World) : (Rtype.directlyAssignable 49 49).run Tryd.prog w = .ok true w := by kernel_rfl
theorem rl_setErrno (ta b : Addr) (x : Int) (old : Value) (W : World) (hb : W.cell? b = some (.int .i64 x)) (ht : W.cell? ta = some old) (hf : W.frozen? ta = false) :
    (ReflectliteValue.set #[.agg #[.pointer (some ⟨2, 49, none⟩), .pointer (some ta), .int .u64 386], .agg #[.pointer (some ⟨2, 49, none⟩), .pointer (some b), .int .u64 130]]).run Tryd.prog W
      = .ok (.tuple #[]) (W.setCell ta (.int .i64 x)) := by
  rw [rls]
  simp only [Sem.run_bind, rl_partsAErrno, rl_partsSErrno, Result.andThen]
  simp [ReflectliteValue.flagAddr, loadVar, isAgg, underlying, Tryd.underlying49, hb, Result.andThen, rl_directErrno, storeVar, Value.cells, storeCells, Addr.add]
  rw [run_store Tryd.prog W ta _ _ (by rfl)]
  simp [ht, hf]
@[go_sem] theorem rl_valueOfPFault (t : Addr) (w : World) : (ReflectliteValue.unpack (.iface 71 (.pointer (some t)))).run Tryd.prog w
    = .ok (.agg #[.pointer (some ⟨2, 71, none⟩), .pointer (some ⟨w.heap.size, 0, none⟩), .int .u64 150]) (w.alloc (.cells #[.pointer (some t)] 71)) := by kernel_rfl
@[go_sem] theorem rl_typeFault (a : Addr) (w : World) : (ReflectliteValue.methodAny (ReflectliteValue.valueError "reflectlite.Value.Type" 0) (fun t _ _ _ => ReflectliteType.toType t) #[.agg #[.pointer (some ⟨2, 71, none⟩), .pointer (some a), .int .u64 150]]).run Tryd.prog w
    = .ok (.iface 105 (.agg #[.pointer (some ⟨2, 71, none⟩)])) w := by kernel_rfl
@[go_sem] theorem rl_kindPFault (w : World) : ((ReflectliteType.abiMethod fun t => (fun a : Nat => Value.int IntKind.u8 (a : Int)) <$> Rtype.kind t) #[.pointer (some ⟨2, 71, none⟩)]).run Tryd.prog w = .ok (.int .u8 22) w := by kernel_rfl
@[go_sem] theorem rl_kindFault (w : World) : ((ReflectliteType.abiMethod fun t => (fun a : Nat => Value.int IntKind.u8 (a : Int)) <$> Rtype.kind t) #[.pointer (some ⟨2, 70, none⟩)]).run Tryd.prog w = .ok (.int .u8 22) w := by kernel_rfl
theorem rl_partsFault (a : Addr) (w : World) : (ReflectliteValue.parts (.agg #[.pointer (some ⟨2, 71, none⟩), .pointer (some a), .int .u64 150])).run Tryd.prog w = .ok (some (71, a, 150)) w := by kernel_rfl
theorem rl_isNilFault (a p : Addr) (W : World) (ha : W.cell? a = some (.pointer (some p))) :
    (ReflectliteValue.method (ReflectliteValue.valueError "reflectlite.Value.IsNil" 0) ReflectliteValue.isNil #[.agg #[.pointer (some ⟨2, 71, none⟩), .pointer (some a), .int .u64 150]]).run Tryd.prog W = .ok (.bool false) W := by
  rw [rlm]
  simp only [Sem.run_bind, rl_partsFault, Result.andThen]
  simp [ReflectliteValue.isNil, loadVar, isAgg, underlying, Tryd.underlying71, ha, Result.andThen]
@[go_sem] theorem rl_elemFault (w : World) : (ReflectliteType.method ReflectliteType.elem #[.agg #[.pointer (some ⟨2, 71, none⟩)]]).run Tryd.prog w = .ok (.iface 105 (.agg #[.pointer (some ⟨2, 70, none⟩)])) w := by kernel_rfl
@[go_sem] theorem rl_implementsFault (w : World) : (ReflectliteType.relation "Implements" ReflectliteType.implements_ #[.agg #[.pointer (some ⟨2, 70, none⟩)], .iface 105 (.agg #[.pointer (some ⟨2, 32, none⟩)])]).run Tryd.prog w = .ok (.bool true) w := by kernel_rfl
theorem rl_elemOfFault (w : World) : (Rtype.elem? 71).run Tryd.prog w = .ok (some 70) w := by kernel_rfl
theorem rl_mkFault (p : Addr) (w : World) : (ReflectliteValue.mk 70 p ReflectliteValue.flagAddr).run Tryd.prog w = .ok (.agg #[.pointer (some ⟨2, 70, none⟩), .pointer (some p), .int .u64 406]) w := by kernel_rfl
theorem rl_elemVFault (a p : Addr) (W : World) (ha : W.cell? a = some (.pointer (some p))) :
    (ReflectliteValue.method (ReflectliteValue.valueError "reflectlite.Value.Elem" 0) ReflectliteValue.elem #[.agg #[.pointer (some ⟨2, 71, none⟩), .pointer (some a), .int .u64 150]]).run Tryd.prog W
      = .ok (.agg #[.pointer (some ⟨2, 70, none⟩), .pointer (some p), .int .u64 406]) W := by
  rw [rlm]
  simp only [Sem.run_bind, rl_partsFault, Result.andThen]
  simp [ReflectliteValue.elem, loadVar, isAgg, underlying, Tryd.underlying71, ha, Result.andThen, rl_elemOfFault, rl_mkFault]
@[go_sem] theorem rl_valueOfFault (x : Addr) (w : World) : (ReflectliteValue.unpack (.iface 70 (.pointer (some x)))).run Tryd.prog w
    = .ok (.agg #[.pointer (some ⟨2, 70, none⟩), .pointer (some ⟨w.heap.size, 0, none⟩), .int .u64 150]) (w.alloc (.cells #[.pointer (some x)] 70)) := by kernel_rfl
theorem rl_partsAFault (a : Addr) (w : World) : (ReflectliteValue.parts (.agg #[.pointer (some ⟨2, 70, none⟩), .pointer (some a), .int .u64 406])).run Tryd.prog w = .ok (some (70, a, 406)) w := by kernel_rfl
theorem rl_partsSFault (a : Addr) (w : World) : (ReflectliteValue.parts (.agg #[.pointer (some ⟨2, 70, none⟩), .pointer (some a), .int .u64 150])).run Tryd.prog w = .ok (some (70, a, 150)) w := by kernel_rfl
theorem rl_directFault (w : World) : (Rtype.directlyAssignable 70 70).run Tryd.prog w = .ok true w := by kernel_rfl
theorem rl_setFault (ta b : Addr) (x : Addr) (old : Value) (W : World) (hb : W.cell? b = some (.pointer (some x))) (ht : W.cell? ta = some old) (hf : W.frozen? ta = false) :
    (ReflectliteValue.set #[.agg #[.pointer (some ⟨2, 70, none⟩), .pointer (some ta), .int .u64 406], .agg #[.pointer (some ⟨2, 70, none⟩), .pointer (some b), .int .u64 150]]).run Tryd.prog W
      = .ok (.tuple #[]) (W.setCell ta (.pointer (some x))) := by
  rw [rls]
  simp only [Sem.run_bind, rl_partsAFault, rl_partsSFault, Result.andThen]
  simp [ReflectliteValue.flagAddr, loadVar, isAgg, underlying, Tryd.underlying70, hb, Result.andThen, rl_directFault, storeVar, Value.cells, storeCells, Addr.add]
  rw [run_store Tryd.prog W ta _ _ (by rfl)]
  simp [ht, hf]
@[go_sem] theorem rl_valueOfPPlace (t : Addr) (w : World) : (ReflectliteValue.unpack (.iface 75 (.pointer (some t)))).run Tryd.prog w
    = .ok (.agg #[.pointer (some ⟨2, 75, none⟩), .pointer (some ⟨w.heap.size, 0, none⟩), .int .u64 150]) (w.alloc (.cells #[.pointer (some t)] 75)) := by kernel_rfl
@[go_sem] theorem rl_typePlace (a : Addr) (w : World) : (ReflectliteValue.methodAny (ReflectliteValue.valueError "reflectlite.Value.Type" 0) (fun t _ _ _ => ReflectliteType.toType t) #[.agg #[.pointer (some ⟨2, 75, none⟩), .pointer (some a), .int .u64 150]]).run Tryd.prog w
    = .ok (.iface 105 (.agg #[.pointer (some ⟨2, 75, none⟩)])) w := by kernel_rfl
@[go_sem] theorem rl_kindPPlace (w : World) : ((ReflectliteType.abiMethod fun t => (fun a : Nat => Value.int IntKind.u8 (a : Int)) <$> Rtype.kind t) #[.pointer (some ⟨2, 75, none⟩)]).run Tryd.prog w = .ok (.int .u8 22) w := by kernel_rfl
@[go_sem] theorem rl_kindPlace (w : World) : ((ReflectliteType.abiMethod fun t => (fun a : Nat => Value.int IntKind.u8 (a : Int)) <$> Rtype.kind t) #[.pointer (some ⟨2, 74, none⟩)]).run Tryd.prog w = .ok (.int .u8 22) w := by kernel_rfl
theorem rl_partsPlace (a : Addr) (w : World) : (ReflectliteValue.parts (.agg #[.pointer (some ⟨2, 75, none⟩), .pointer (some a), .int .u64 150])).run Tryd.prog w = .ok (some (75, a, 150)) w := by kernel_rfl
theorem rl_isNilPlace (a p : Addr) (W : World) (ha : W.cell? a = some (.pointer (some p))) :
    (ReflectliteValue.method (ReflectliteValue.valueError "reflectlite.Value.IsNil" 0) ReflectliteValue.isNil #[.agg #[.pointer (some ⟨2, 75, none⟩), .pointer (some a), .int .u64 150]]).run Tryd.prog W = .ok (.bool false) W := by
  rw [rlm]
  simp only [Sem.run_bind, rl_partsPlace, Result.andThen]
  simp [ReflectliteValue.isNil, loadVar, isAgg, underlying, Tryd.underlying75, ha, Result.andThen]
@[go_sem] theorem rl_elemPlace (w : World) : (ReflectliteType.method ReflectliteType.elem #[.agg #[.pointer (some ⟨2, 75, none⟩)]]).run Tryd.prog w = .ok (.iface 105 (.agg #[.pointer (some ⟨2, 74, none⟩)])) w := by kernel_rfl
@[go_sem] theorem rl_implementsPlace (w : World) : (ReflectliteType.relation "Implements" ReflectliteType.implements_ #[.agg #[.pointer (some ⟨2, 74, none⟩)], .iface 105 (.agg #[.pointer (some ⟨2, 32, none⟩)])]).run Tryd.prog w = .ok (.bool true) w := by kernel_rfl
theorem rl_elemOfPlace (w : World) : (Rtype.elem? 75).run Tryd.prog w = .ok (some 74) w := by kernel_rfl
theorem rl_mkPlace (p : Addr) (w : World) : (ReflectliteValue.mk 74 p ReflectliteValue.flagAddr).run Tryd.prog w = .ok (.agg #[.pointer (some ⟨2, 74, none⟩), .pointer (some p), .int .u64 406]) w := by kernel_rfl
theorem rl_elemVPlace (a p : Addr) (W : World) (ha : W.cell? a = some (.pointer (some p))) :
    (ReflectliteValue.method (ReflectliteValue.valueError "reflectlite.Value.Elem" 0) ReflectliteValue.elem #[.agg #[.pointer (some ⟨2, 75, none⟩), .pointer (some a), .int .u64 150]]).run Tryd.prog W
      = .ok (.agg #[.pointer (some ⟨2, 74, none⟩), .pointer (some p), .int .u64 406]) W := by
  rw [rlm]
  simp only [Sem.run_bind, rl_partsPlace, Result.andThen]
  simp [ReflectliteValue.elem, loadVar, isAgg, underlying, Tryd.underlying75, ha, Result.andThen, rl_elemOfPlace, rl_mkPlace]
@[go_sem] theorem rl_valueOfPlace (x : Addr) (w : World) : (ReflectliteValue.unpack (.iface 74 (.pointer (some x)))).run Tryd.prog w
    = .ok (.agg #[.pointer (some ⟨2, 74, none⟩), .pointer (some ⟨w.heap.size, 0, none⟩), .int .u64 150]) (w.alloc (.cells #[.pointer (some x)] 74)) := by kernel_rfl
theorem rl_partsAPlace (a : Addr) (w : World) : (ReflectliteValue.parts (.agg #[.pointer (some ⟨2, 74, none⟩), .pointer (some a), .int .u64 406])).run Tryd.prog w = .ok (some (74, a, 406)) w := by kernel_rfl
theorem rl_partsSPlace (a : Addr) (w : World) : (ReflectliteValue.parts (.agg #[.pointer (some ⟨2, 74, none⟩), .pointer (some a), .int .u64 150])).run Tryd.prog w = .ok (some (74, a, 150)) w := by kernel_rfl
theorem rl_directPlace (w : World) : (Rtype.directlyAssignable 74 74).run Tryd.prog w = .ok true w := by kernel_rfl
theorem rl_setPlace (ta b : Addr) (x : Addr) (old : Value) (W : World) (hb : W.cell? b = some (.pointer (some x))) (ht : W.cell? ta = some old) (hf : W.frozen? ta = false) :
    (ReflectliteValue.set #[.agg #[.pointer (some ⟨2, 74, none⟩), .pointer (some ta), .int .u64 406], .agg #[.pointer (some ⟨2, 74, none⟩), .pointer (some b), .int .u64 150]]).run Tryd.prog W
      = .ok (.tuple #[]) (W.setCell ta (.pointer (some x))) := by
  rw [rls]
  simp only [Sem.run_bind, rl_partsAPlace, rl_partsSPlace, Result.andThen]
  simp [ReflectliteValue.flagAddr, loadVar, isAgg, underlying, Tryd.underlying74, hb, Result.andThen, rl_directPlace, storeVar, Value.cells, storeCells, Addr.add]
  rw [run_store Tryd.prog W ta _ _ (by rfl)]
  simp [ht, hf]
@[go_sem] theorem rl_typeOfErrno (v : Value) (w : World) : (ReflectliteType.typeOf #[.iface 49 v]).run Tryd.prog w = .ok (.iface 105 (.agg #[.pointer (some ⟨2, 49, none⟩)])) w := by kernel_rfl
@[go_sem] theorem rl_assignErrnoErrno (w : World) : (ReflectliteType.relation "AssignableTo" ReflectliteType.assignableTo #[.agg #[.pointer (some ⟨2, 49, none⟩)], .iface 105 (.agg #[.pointer (some ⟨2, 49, none⟩)])]).run Tryd.prog w = .ok (.bool true) w := by kernel_rfl
@[go_sem] theorem rl_assignErrnoFault (w : World) : (ReflectliteType.relation "AssignableTo" ReflectliteType.assignableTo #[.agg #[.pointer (some ⟨2, 49, none⟩)], .iface 105 (.agg #[.pointer (some ⟨2, 70, none⟩)])]).run Tryd.prog w = .ok (.bool false) w := by kernel_rfl
@[go_sem] theorem rl_assignErrnoPlace (w : World) : (ReflectliteType.relation "AssignableTo" ReflectliteType.assignableTo #[.agg #[.pointer (some ⟨2, 49, none⟩)], .iface 105 (.agg #[.pointer (some ⟨2, 74, none⟩)])]).run Tryd.prog w = .ok (.bool false) w := by kernel_rfl
@[go_sem] theorem rl_noAsErrno (v : Value) (xT : TypeId) (w : World) : (Instr.typeAssert (.iface 49 v) xT 110 true).run Tryd.prog w = .ok (.tuple #[.nilIface, .bool false]) w := run_typeAssert_lacksB Tryd.underlying110 (by kernel_rfl) (by kernel_rfl) v xT w
@[go_sem] theorem rl_noUnwrapErrno (v : Value) (xT : TypeId) (w : World) : (Instr.typeAssert (.iface 49 v) xT 113 true).run Tryd.prog w = .ok (.tuple #[.nilIface, .bool false]) w := run_typeAssert_lacksB Tryd.underlying113 (by kernel_rfl) (by kernel_rfl) v xT w
@[go_sem] theorem rl_noUnwrapsErrno (v : Value) (xT : TypeId) (w : World) : (Instr.typeAssert (.iface 49 v) xT 115 true).run Tryd.prog w = .ok (.tuple #[.nilIface, .bool false]) w := run_typeAssert_lacksB Tryd.underlying115 (by kernel_rfl) (by kernel_rfl) v xT w
@[go_sem] theorem rl_typeOfFault (v : Value) (w : World) : (ReflectliteType.typeOf #[.iface 70 v]).run Tryd.prog w = .ok (.iface 105 (.agg #[.pointer (some ⟨2, 70, none⟩)])) w := by kernel_rfl
@[go_sem] theorem rl_assignFaultErrno (w : World) : (ReflectliteType.relation "AssignableTo" ReflectliteType.assignableTo #[.agg #[.pointer (some ⟨2, 70, none⟩)], .iface 105 (.agg #[.pointer (some ⟨2, 49, none⟩)])]).run Tryd.prog w = .ok (.bool false) w := by kernel_rfl
@[go_sem] theorem rl_assignFaultFault (w : World) : (ReflectliteType.relation "AssignableTo" ReflectliteType.assignableTo #[.agg #[.pointer (some ⟨2, 70, none⟩)], .iface 105 (.agg #[.pointer (some ⟨2, 70, none⟩)])]).run Tryd.prog w = .ok (.bool true) w := by kernel_rfl
@[go_sem] theorem rl_assignFaultPlace (w : World) : (ReflectliteType.relation "AssignableTo" ReflectliteType.assignableTo #[.agg #[.pointer (some ⟨2, 70, none⟩)], .iface 105 (.agg #[.pointer (some ⟨2, 74, none⟩)])]).run Tryd.prog w = .ok (.bool false) w := by kernel_rfl
@[go_sem] theorem rl_noAsFault (v : Value) (xT : TypeId) (w : World) : (Instr.typeAssert (.iface 70 v) xT 110 true).run Tryd.prog w = .ok (.tuple #[.nilIface, .bool false]) w := run_typeAssert_lacksB Tryd.underlying110 (by kernel_rfl) (by kernel_rfl) v xT w
@[go_sem] theorem rl_hasUnwrapFault (v : Value) (xT : TypeId) (w : World) : (Instr.typeAssert (.iface 70 v) xT 113 true).run Tryd.prog w = .ok (.tuple #[.iface 70 v, .bool true]) w := run_typeAssert_hasB Tryd.underlying113 (by kernel_rfl) v xT w
@[go_sem] theorem rl_noUnwrapsFault (v : Value) (xT : TypeId) (w : World) : (Instr.typeAssert (.iface 70 v) xT 115 true).run Tryd.prog w = .ok (.tuple #[.nilIface, .bool false]) w := run_typeAssert_lacksB Tryd.underlying115 (by kernel_rfl) (by kernel_rfl) v xT w
@[go_sem] theorem rl_typeOfPlace (v : Value) (w : World) : (ReflectliteType.typeOf #[.iface 74 v]).run Tryd.prog w = .ok (.iface 105 (.agg #[.pointer (some ⟨2, 74, none⟩)])) w := by kernel_rfl
@[go_sem] theorem rl_assignPlaceErrno (w : World) : (ReflectliteType.relation "AssignableTo" ReflectliteType.assignableTo #[.agg #[.pointer (some ⟨2, 74, none⟩)], .iface 105 (.agg #[.pointer (some ⟨2, 49, none⟩)])]).run Tryd.prog w = .ok (.bool false) w := by kernel_rfl
@[go_sem] theorem rl_assignPlaceFault (w : World) : (ReflectliteType.relation "AssignableTo" ReflectliteType.assignableTo #[.agg #[.pointer (some ⟨2, 74, none⟩)], .iface 105 (.agg #[.pointer (some ⟨2, 70, none⟩)])]).run Tryd.prog w = .ok (.bool false) w := by kernel_rfl
@[go_sem] theorem rl_assignPlacePlace (w : World) : (ReflectliteType.relation "AssignableTo" ReflectliteType.assignableTo #[.agg #[.pointer (some ⟨2, 74, none⟩)], .iface 105 (.agg #[.pointer (some ⟨2, 74, none⟩)])]).run Tryd.prog w = .ok (.bool true) w := by kernel_rfl
@[go_sem] theorem rl_noAsPlace (v : Value) (xT : TypeId) (w : World) : (Instr.typeAssert (.iface 74 v) xT 110 true).run Tryd.prog w = .ok (.tuple #[.nilIface, .bool false]) w := run_typeAssert_lacksB Tryd.underlying110 (by kernel_rfl) (by kernel_rfl) v xT w
@[go_sem] theorem rl_hasUnwrapPlace (v : Value) (xT : TypeId) (w : World) : (Instr.typeAssert (.iface 74 v) xT 113 true).run Tryd.prog w = .ok (.tuple #[.iface 74 v, .bool true]) w := run_typeAssert_hasB Tryd.underlying113 (by kernel_rfl) v xT w
@[go_sem] theorem rl_noUnwrapsPlace (v : Value) (xT : TypeId) (w : World) : (Instr.typeAssert (.iface 74 v) xT 115 true).run Tryd.prog w = .ok (.tuple #[.nilIface, .bool false]) w := run_typeAssert_lacksB Tryd.underlying115 (by kernel_rfl) (by kernel_rfl) v xT w
@[go_sem] theorem rl_unwrapFault (h : Value) (w : World) : (Go.method 251 70 h "Unwrap").run Tryd.prog w = .ok (89, h) w := by kernel_rfl
@[go_sem] theorem rl_unwrapPlace (h : Value) (w : World) : (Go.method 251 74 h "Unwrap").run Tryd.prog w = .ok (91, h) w := by kernel_rfl
@[go_sem] theorem rl_callF6 (args : Array Value) (w : World) : (callFunc 52 args).run Tryd.prog w = (((fun args => ReflectliteValue.unpack (args.getD 0 (.tuple #[]))) args).run Tryd.prog w).andThen fun v w' => .ok (.value v) w' := @run_callFunc_extern Tryd.prog 52 _ (fun args => ReflectliteValue.unpack (args.getD 0 (.tuple #[]))) Tryd.func52 (by kernel_rfl) (by kernel_rfl) (by kernel_rfl) (by kernel_rfl) args w
@[go_sem] theorem rl_callF7 (args : Array Value) (w : World) : (callFunc 53 args).run Tryd.prog w = (((ReflectliteValue.methodAny (ReflectliteValue.valueError "reflectlite.Value.Type" 0) (fun t _ _ _ => ReflectliteType.toType t)) args).run Tryd.prog w).andThen fun v w' => .ok (.value v) w' := @run_callFunc_extern Tryd.prog 53 _ (ReflectliteValue.methodAny (ReflectliteValue.valueError "reflectlite.Value.Type" 0) (fun t _ _ _ => ReflectliteType.toType t)) Tryd.func53 (by kernel_rfl) (by kernel_rfl) (by kernel_rfl) (by kernel_rfl) args w
@[go_sem] theorem rl_callF8 (args : Array Value) (w : World) : (callFunc 54 args).run Tryd.prog w = (((ReflectliteValue.method (ReflectliteValue.valueError "reflectlite.Value.IsNil" 0) ReflectliteValue.isNil) args).run Tryd.prog w).andThen fun v w' => .ok (.value v) w' := @run_callFunc_extern Tryd.prog 54 _ (ReflectliteValue.method (ReflectliteValue.valueError "reflectlite.Value.IsNil" 0) ReflectliteValue.isNil) Tryd.func54 (by kernel_rfl) (by kernel_rfl) (by kernel_rfl) (by kernel_rfl) args w
@[go_sem] theorem rl_callF27 (args : Array Value) (w : World) : (callFunc 84 args).run Tryd.prog w = (((ReflectliteType.abiMethod fun t => do pure (.int .u8 (← Rtype.kind t))) args).run Tryd.prog w).andThen fun v w' => .ok (.value v) w' := @run_callFunc_extern Tryd.prog 84 _ (ReflectliteType.abiMethod fun t => do pure (.int .u8 (← Rtype.kind t))) Tryd.func84 (by kernel_rfl) (by kernel_rfl) (by kernel_rfl) (by kernel_rfl) args w
@[go_sem] theorem rl_callF37 (args : Array Value) (w : World) : (callFunc 98 args).run Tryd.prog w = (((ReflectliteType.method ReflectliteType.elem) args).run Tryd.prog w).andThen fun v w' => .ok (.value v) w' := @run_callFunc_extern Tryd.prog 98 _ (ReflectliteType.method ReflectliteType.elem) Tryd.func98 (by kernel_rfl) (by kernel_rfl) (by kernel_rfl) (by kernel_rfl) args w
@[go_sem] theorem rl_callF38 (args : Array Value) (w : World) : (callFunc 99 args).run Tryd.prog w = (((ReflectliteType.relation "Implements" ReflectliteType.implements_) args).run Tryd.prog w).andThen fun v w' => .ok (.value v) w' := @run_callFunc_extern Tryd.prog 99 _ (ReflectliteType.relation "Implements" ReflectliteType.implements_) Tryd.func99 (by kernel_rfl) (by kernel_rfl) (by kernel_rfl) (by kernel_rfl) args w
@[go_sem] theorem rl_callF10 (args : Array Value) (w : World) : (callFunc 62 args).run Tryd.prog w = (((ReflectliteType.typeOf) args).run Tryd.prog w).andThen fun v w' => .ok (.value v) w' := @run_callFunc_extern Tryd.prog 62 _ (ReflectliteType.typeOf) Tryd.func62 (by kernel_rfl) (by kernel_rfl) (by kernel_rfl) (by kernel_rfl) args w
@[go_sem] theorem rl_callF35 (args : Array Value) (w : World) : (callFunc 96 args).run Tryd.prog w = (((ReflectliteType.relation "AssignableTo" ReflectliteType.assignableTo) args).run Tryd.prog w).andThen fun v w' => .ok (.value v) w' := @run_callFunc_extern Tryd.prog 96 _ (ReflectliteType.relation "AssignableTo" ReflectliteType.assignableTo) Tryd.func96 (by kernel_rfl) (by kernel_rfl) (by kernel_rfl) (by kernel_rfl) args w
@[go_sem] theorem rl_callF11 (args : Array Value) (w : World) : (callFunc 63 args).run Tryd.prog w = (((ReflectliteValue.method (ReflectliteValue.valueError "reflectlite.Value.Elem" 0) ReflectliteValue.elem) args).run Tryd.prog w).andThen fun v w' => .ok (.value v) w' := @run_callFunc_extern Tryd.prog 63 _ (ReflectliteValue.method (ReflectliteValue.valueError "reflectlite.Value.Elem" 0) ReflectliteValue.elem) Tryd.func63 (by kernel_rfl) (by kernel_rfl) (by kernel_rfl) (by kernel_rfl) args w
@[go_sem] theorem rl_callF12 (args : Array Value) (w : World) : (callFunc 64 args).run Tryd.prog w = (((ReflectliteValue.set) args).run Tryd.prog w).andThen fun v w' => .ok (.value v) w' := @run_callFunc_extern Tryd.prog 64 _ (ReflectliteValue.set) Tryd.func64 (by kernel_rfl) (by kernel_rfl) (by kernel_rfl) (by kernel_rfl) args w
end Go.Proofs.YtdhcnmljkmodhaaDoor
