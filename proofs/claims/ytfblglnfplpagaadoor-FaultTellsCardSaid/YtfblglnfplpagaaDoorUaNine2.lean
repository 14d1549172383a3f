/- Closed facts on the model's entries for internal/reflectlite, at this program's types. -/
import Derived.Test.YtfblglnfplpagaaDoorUaNine1
import Derived.WalkKit
import Derived.LaidEql
import Derived.RowKitTokens
namespace Go.Proofs.YtfblglnfplpagaaDoor
open Go Go.Proofs Go.Ua Go.RowKit Go.Extern
set_option linter.unusedVariables false

theorem valueOfE (a : Addr) (w : World) : (ReflectliteValue.unpack (.iface 54 (.pointer (some a)))).run Tryd.prog w
    = .ok (.agg #[.pointer (some ⟨4, 54, none⟩), .pointer (some ⟨w.heap.size, 0, none⟩), .int .u64 150]) (w.alloc (.cells #[.pointer (some a)] 54)) := by kernel_rfl
theorem valueOfF (a : Addr) (w : World) : (ReflectliteValue.unpack (.iface 55 (.pointer (some a)))).run Tryd.prog w
    = .ok (.agg #[.pointer (some ⟨4, 55, none⟩), .pointer (some ⟨w.heap.size, 0, none⟩), .int .u64 150]) (w.alloc (.cells #[.pointer (some a)] 55)) := by kernel_rfl
theorem valueOfNum (n : Int) (w : World) : (ReflectliteValue.unpack (.iface 28 (.int .i64 n))).run Tryd.prog w
    = .ok (.agg #[.pointer (some ⟨4, 28, none⟩), .pointer (some ⟨w.heap.size, 0, none⟩), .int .u64 130]) (w.alloc (.cells #[.int .i64 n] 28)) := by kernel_rfl
theorem valueOfFlt (x y z : Value) (w : World) : (ReflectliteValue.unpack (.iface 27 (.agg #[x, y, z]))).run Tryd.prog w
    = .ok (.agg #[.pointer (some ⟨4, 27, none⟩), .pointer (some ⟨w.heap.size, 0, none⟩), .int .u64 153]) (w.alloc (.cells #[x, y, z] 27)) := by kernel_rfl
theorem typeE (a : Addr) (w : World) : (ReflectliteValue.methodAny (ReflectliteValue.valueError "reflectlite.Value.Type" 0) (fun t _ _ _ => ReflectliteType.toType t) #[.agg #[.pointer (some ⟨4, 54, none⟩), .pointer (some a), .int .u64 150]]).run Tryd.prog w
    = .ok (.iface 78 (.agg #[.pointer (some ⟨4, 54, none⟩)])) w := by kernel_rfl
theorem typeF (a : Addr) (w : World) : (ReflectliteValue.methodAny (ReflectliteValue.valueError "reflectlite.Value.Type" 0) (fun t _ _ _ => ReflectliteType.toType t) #[.agg #[.pointer (some ⟨4, 55, none⟩), .pointer (some a), .int .u64 150]]).run Tryd.prog w
    = .ok (.iface 78 (.agg #[.pointer (some ⟨4, 55, none⟩)])) w := by kernel_rfl
theorem methodKind (h : Value) (w : World) : (Go.method (Tryd.prog.types.size + Made.depth) 78 (.agg #[h]) "Kind").run Tryd.prog w = .ok (62, h) w := by kernel_rfl
theorem kindE (w : World) : ((ReflectliteType.abiMethod fun t => (fun a : Nat => Value.int IntKind.u8 (a : Int)) <$> Rtype.kind t) #[.pointer (some ⟨4, 54, none⟩)]).run Tryd.prog w = .ok (.int .u8 22) w := by kernel_rfl
theorem kindF (w : World) : ((ReflectliteType.abiMethod fun t => (fun a : Nat => Value.int IntKind.u8 (a : Int)) <$> Rtype.kind t) #[.pointer (some ⟨4, 55, none⟩)]).run Tryd.prog w = .ok (.int .u8 22) w := by kernel_rfl
theorem kind28 (w : World) : ((ReflectliteType.abiMethod fun t => (fun a : Nat => Value.int IntKind.u8 (a : Int)) <$> Rtype.kind t) #[.pointer (some ⟨4, 28, none⟩)]).run Tryd.prog w = .ok (.int .u8 2) w := by kernel_rfl
theorem kind27 (w : World) : ((ReflectliteType.abiMethod fun t => (fun a : Nat => Value.int IntKind.u8 (a : Int)) <$> Rtype.kind t) #[.pointer (some ⟨4, 27, none⟩)]).run Tryd.prog w = .ok (.int .u8 25) w := by kernel_rfl
theorem methodElem (h : Value) (w : World) : (Go.method (Tryd.prog.types.size + Made.depth) 78 (.agg #[h]) "Elem").run Tryd.prog w = .ok (72, .agg #[h]) w := by kernel_rfl
theorem methodImplements (h : Value) (w : World) : (Go.method (Tryd.prog.types.size + Made.depth) 78 (.agg #[h]) "Implements").run Tryd.prog w = .ok (73, .agg #[h]) w := by kernel_rfl
theorem methodAssignableTo (h : Value) (w : World) : (Go.method (Tryd.prog.types.size + Made.depth) 78 (.agg #[h]) "AssignableTo").run Tryd.prog w = .ok (70, .agg #[h]) w := by kernel_rfl
theorem methodComparable (h : Value) (w : World) : (Go.method (Tryd.prog.types.size + Made.depth) 78 (.agg #[h]) "Comparable").run Tryd.prog w = .ok (71, .agg #[h]) w := by kernel_rfl
theorem methodUnwrap (x y z : Value) (w : World) : (Go.method (Tryd.prog.types.size + Made.depth) 27 (.agg #[x, y, z]) "Unwrap").run Tryd.prog w = .ok (12, .agg #[x, y, z]) w := by kernel_rfl
theorem elemE (w : World) : (ReflectliteType.method ReflectliteType.elem #[.agg #[.pointer (some ⟨4, 54, none⟩)]]).run Tryd.prog w = .ok (.iface 78 (.agg #[.pointer (some ⟨4, 28, none⟩)])) w := by kernel_rfl
theorem elemF (w : World) : (ReflectliteType.method ReflectliteType.elem #[.agg #[.pointer (some ⟨4, 55, none⟩)]]).run Tryd.prog w = .ok (.iface 78 (.agg #[.pointer (some ⟨4, 27, none⟩)])) w := by kernel_rfl
theorem implements28 (w : World) : (ReflectliteType.relation "Implements" ReflectliteType.implements_ #[.agg #[.pointer (some ⟨4, 28, none⟩)], .iface 78 (.agg #[.pointer (some ⟨4, 25, none⟩)])]).run Tryd.prog w = .ok (.bool true) w := by kernel_rfl
theorem implements27 (w : World) : (ReflectliteType.relation "Implements" ReflectliteType.implements_ #[.agg #[.pointer (some ⟨4, 27, none⟩)], .iface 78 (.agg #[.pointer (some ⟨4, 25, none⟩)])]).run Tryd.prog w = .ok (.bool true) w := by kernel_rfl
theorem typeOf28 (v : Value) (w : World) : (ReflectliteType.typeOf #[.iface 28 v]).run Tryd.prog w = .ok (.iface 78 (.agg #[.pointer (some ⟨4, 28, none⟩)])) w := by kernel_rfl
theorem typeOf27 (v : Value) (w : World) : (ReflectliteType.typeOf #[.iface 27 v]).run Tryd.prog w = .ok (.iface 78 (.agg #[.pointer (some ⟨4, 27, none⟩)])) w := by kernel_rfl
theorem typeOf72 (v : Value) (w : World) : (ReflectliteType.typeOf #[.iface 72 v]).run Tryd.prog w = .ok (.iface 78 (.agg #[.pointer (some ⟨4, 72, none⟩)])) w := by kernel_rfl
theorem assignable (w : World) : (ReflectliteType.relation "AssignableTo" ReflectliteType.assignableTo #[.agg #[.pointer (some ⟨4, 28, none⟩)], .iface 78 (.agg #[.pointer (some ⟨4, 28, none⟩)])]).run Tryd.prog w = .ok (.bool true) w ∧
    (ReflectliteType.relation "AssignableTo" ReflectliteType.assignableTo #[.agg #[.pointer (some ⟨4, 27, none⟩)], .iface 78 (.agg #[.pointer (some ⟨4, 28, none⟩)])]).run Tryd.prog w = .ok (.bool false) w ∧
    (ReflectliteType.relation "AssignableTo" ReflectliteType.assignableTo #[.agg #[.pointer (some ⟨4, 72, none⟩)], .iface 78 (.agg #[.pointer (some ⟨4, 28, none⟩)])]).run Tryd.prog w = .ok (.bool false) w ∧
    (ReflectliteType.relation "AssignableTo" ReflectliteType.assignableTo #[.agg #[.pointer (some ⟨4, 28, none⟩)], .iface 78 (.agg #[.pointer (some ⟨4, 27, none⟩)])]).run Tryd.prog w = .ok (.bool false) w ∧
    (ReflectliteType.relation "AssignableTo" ReflectliteType.assignableTo #[.agg #[.pointer (some ⟨4, 27, none⟩)], .iface 78 (.agg #[.pointer (some ⟨4, 27, none⟩)])]).run Tryd.prog w = .ok (.bool true) w ∧
    (ReflectliteType.relation "AssignableTo" ReflectliteType.assignableTo #[.agg #[.pointer (some ⟨4, 72, none⟩)], .iface 78 (.agg #[.pointer (some ⟨4, 27, none⟩)])]).run Tryd.prog w = .ok (.bool false) w :=
  ⟨by kernel_rfl, by kernel_rfl, by kernel_rfl, by kernel_rfl, by kernel_rfl, by kernel_rfl⟩
theorem comparable28 (w : World) : (ReflectliteType.method (fun t => do Rtype.noPackHeld "Comparable" t; pure (.bool (← typeInfo t).comparable)) #[.agg #[.pointer (some ⟨4, 28, none⟩)]]).run Tryd.prog w = .ok (.bool true) w := by kernel_rfl
/-! What reads or writes memory. -/
theorem rlm (z : Sem Value) (f : TypeId → Addr → Nat → Nat → Sem Value) (v : Value) :
    ReflectliteValue.method z f #[v] = (do match ← ReflectliteValue.parts v with | none => z | some (t, a, fl) => f t a fl (fl % 32)) := rfl
theorem partsE (a : Addr) (w : World) : (ReflectliteValue.parts (.agg #[.pointer (some ⟨4, 54, none⟩), .pointer (some a), .int .u64 150])).run Tryd.prog w = .ok (some (54, a, 150)) w := by kernel_rfl
theorem partsF (a : Addr) (w : World) : (ReflectliteValue.parts (.agg #[.pointer (some ⟨4, 55, none⟩), .pointer (some a), .int .u64 150])).run Tryd.prog w = .ok (some (55, a, 150)) w := by kernel_rfl
theorem isNilE (a p : Addr) (W : World) (ha : W.cell? a = some (.pointer (some p))) :
    (ReflectliteValue.method (ReflectliteValue.valueError "reflectlite.Value.IsNil" 0) ReflectliteValue.isNil #[.agg #[.pointer (some ⟨4, 54, none⟩), .pointer (some a), .int .u64 150]]).run Tryd.prog W = .ok (.bool false) W := by
  rw [rlm]
  simp only [Sem.run_bind, partsE, Result.andThen]
  simp [ReflectliteValue.isNil, loadVar, isAgg, underlying, Tryd.underlying54, ha, Result.andThen]
theorem isNilF (a p : Addr) (W : World) (ha : W.cell? a = some (.pointer (some p))) :
    (ReflectliteValue.method (ReflectliteValue.valueError "reflectlite.Value.IsNil" 0) ReflectliteValue.isNil #[.agg #[.pointer (some ⟨4, 55, none⟩), .pointer (some a), .int .u64 150]]).run Tryd.prog W = .ok (.bool false) W := by
  rw [rlm]
  simp only [Sem.run_bind, partsF, Result.andThen]
  simp [ReflectliteValue.isNil, loadVar, isAgg, underlying, Tryd.underlying55, ha, Result.andThen]
theorem elemOfE (w : World) : (Rtype.elem? 54).run Tryd.prog w = .ok (some 28) w := by kernel_rfl
theorem elemOfF (w : World) : (Rtype.elem? 55).run Tryd.prog w = .ok (some 27) w := by kernel_rfl
theorem mk28 (p : Addr) (w : World) : (ReflectliteValue.mk 28 p ReflectliteValue.flagAddr).run Tryd.prog w = .ok (.agg #[.pointer (some ⟨4, 28, none⟩), .pointer (some p), .int .u64 386]) w := by kernel_rfl
theorem mk27 (p : Addr) (w : World) : (ReflectliteValue.mk 27 p ReflectliteValue.flagAddr).run Tryd.prog w = .ok (.agg #[.pointer (some ⟨4, 27, none⟩), .pointer (some p), .int .u64 409]) w := by kernel_rfl
theorem elemVE (a p : Addr) (W : World) (ha : W.cell? a = some (.pointer (some p))) :
    (ReflectliteValue.method (ReflectliteValue.valueError "reflectlite.Value.Elem" 0) ReflectliteValue.elem #[.agg #[.pointer (some ⟨4, 54, none⟩), .pointer (some a), .int .u64 150]]).run Tryd.prog W
      = .ok (.agg #[.pointer (some ⟨4, 28, none⟩), .pointer (some p), .int .u64 386]) W := by
  rw [rlm]
  simp only [Sem.run_bind, partsE, Result.andThen]
  simp [ReflectliteValue.elem, loadVar, isAgg, underlying, Tryd.underlying54, ha, Result.andThen, elemOfE, mk28]
theorem elemVF (a p : Addr) (W : World) (ha : W.cell? a = some (.pointer (some p))) :
    (ReflectliteValue.method (ReflectliteValue.valueError "reflectlite.Value.Elem" 0) ReflectliteValue.elem #[.agg #[.pointer (some ⟨4, 55, none⟩), .pointer (some a), .int .u64 150]]).run Tryd.prog W
      = .ok (.agg #[.pointer (some ⟨4, 27, none⟩), .pointer (some p), .int .u64 409]) W := by
  rw [rlm]
  simp only [Sem.run_bind, partsF, Result.andThen]
  simp [ReflectliteValue.elem, loadVar, isAgg, underlying, Tryd.underlying55, ha, Result.andThen, elemOfF, mk27]
theorem rls (v x : Value) : ReflectliteValue.set #[v, x] = (do
    let (some (dst, a, fl), some (src, b, _)) := (← ReflectliteValue.parts v, ← ReflectliteValue.parts x)
      | unsupported (.noEntry "extern/(internal/reflectlite.Value).Set.zeroValue")
    if fl / ReflectliteValue.flagAddr % 2 == 0 then unsupported (.noEntry "extern/(internal/reflectlite.Value).Set.unaddressable")
    let val ← loadVar src b
    if ← Rtype.directlyAssignable dst src then storeVar dst a val
    else if ← Rtype.implements dst src then
      if (← Rtype.kind src) == 20 then
        match val with
        | .nilIface => unsupported (.noEntry "extern/reflectlite: a nil value of one interface type handed on as a value of another")
        | _ => storeVar dst a val
      else storeVar dst a (.iface src val)
    else panicString ("reflectlite.Set: value of type " ++ (← Rtype.spelt src) ++ " is not assignable to type " ++ (← Rtype.spelt dst))
    pure (.tuple #[])) := rfl
theorem parts28a (a : Addr) (w : World) : (ReflectliteValue.parts (.agg #[.pointer (some ⟨4, 28, none⟩), .pointer (some a), .int .u64 386])).run Tryd.prog w = .ok (some (28, a, 386)) w := by kernel_rfl
theorem parts28 (a : Addr) (w : World) : (ReflectliteValue.parts (.agg #[.pointer (some ⟨4, 28, none⟩), .pointer (some a), .int .u64 130])).run Tryd.prog w = .ok (some (28, a, 130)) w := by kernel_rfl
theorem parts27a (a : Addr) (w : World) : (ReflectliteValue.parts (.agg #[.pointer (some ⟨4, 27, none⟩), .pointer (some a), .int .u64 409])).run Tryd.prog w = .ok (some (27, a, 409)) w := by kernel_rfl
theorem parts27 (a : Addr) (w : World) : (ReflectliteValue.parts (.agg #[.pointer (some ⟨4, 27, none⟩), .pointer (some a), .int .u64 153])).run Tryd.prog w = .ok (some (27, a, 153)) w := by kernel_rfl
theorem direct28 (w : World) : (Rtype.directlyAssignable 28 28).run Tryd.prog w = .ok true w := by kernel_rfl
theorem direct27 (w : World) : (Rtype.directlyAssignable 27 27).run Tryd.prog w = .ok true w := by kernel_rfl

/-- Set: what the one place holds is stored into the other. -/
theorem setE (a b : Addr) (v : Value) (W W' : World) (hb : (loadVar 28 b).run Tryd.prog W = .ok v W) (hs : (storeVar 28 a v).run Tryd.prog W = .ok () W') :
    (ReflectliteValue.set #[.agg #[.pointer (some ⟨4, 28, none⟩), .pointer (some a), .int .u64 386], .agg #[.pointer (some ⟨4, 28, none⟩), .pointer (some b), .int .u64 130]]).run Tryd.prog W = .ok (.tuple #[]) W' := by
  rw [rls]
  simp only [Sem.run_bind, parts28a, parts28, Result.andThen]
  simp [ReflectliteValue.flagAddr, Result.andThen, hb, direct28, hs]
theorem setF (a b : Addr) (v : Value) (W W' : World) (hb : (loadVar 27 b).run Tryd.prog W = .ok v W) (hs : (storeVar 27 a v).run Tryd.prog W = .ok () W') :
    (ReflectliteValue.set #[.agg #[.pointer (some ⟨4, 27, none⟩), .pointer (some a), .int .u64 409], .agg #[.pointer (some ⟨4, 27, none⟩), .pointer (some b), .int .u64 153]]).run Tryd.prog W = .ok (.tuple #[]) W' := by
  rw [rls]
  simp only [Sem.run_bind, parts27a, parts27, Result.andThen]
  simp [ReflectliteValue.flagAddr, Result.andThen, hb, direct27, hs]
end Go.Proofs.YtfblglnfplpagaaDoor
