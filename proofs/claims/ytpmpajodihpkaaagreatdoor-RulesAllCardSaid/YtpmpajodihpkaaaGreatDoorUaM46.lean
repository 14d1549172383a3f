/- The library of this claim and its walks, part 46, joined out of smaller texts. No statement stands in it. -/
import Derived.Test.YtpmpajodihpkaaaGreatDoorUaM15
import Derived.Test.YtpmpajodihpkaaaGreatDoorUaM20
import Derived.WalkKit
import Derived.LaidEql
import Derived.RowKitTokens
set_option linter.unusedSectionVars false
set_option linter.unusedSimpArgs false
set_option linter.unusedVariables false
namespace Go.Proofs.YtpmpajodihpkaaaGreatDoor
open Go Go.Proofs Go.Ua Go.RowKit Go.Extern
theorem valueOfE (a : Addr) (w : World) : (ReflectliteValue.unpack (.iface 65 (.pointer (some a)))).run Tryz.prog w
   = .ok (.agg #[.pointer (some ⟨2, 65, none⟩), .pointer (some ⟨w.heap.size, 0, none⟩), .int .u64 150]) (w.alloc (.cells #[.pointer (some a)] 65)) := by kernel_rfl
theorem valueOfF (a : Addr) (w : World) : (ReflectliteValue.unpack (.iface 68 (.pointer (some a)))).run Tryz.prog w
   = .ok (.agg #[.pointer (some ⟨2, 68, none⟩), .pointer (some ⟨w.heap.size, 0, none⟩), .int .u64 150]) (w.alloc (.cells #[.pointer (some a)] 68)) := by kernel_rfl
theorem valueOfNum (n : Int) (w : World) : (ReflectliteValue.unpack (.iface 35 (.int .i64 n))).run Tryz.prog w
   = .ok (.agg #[.pointer (some ⟨2, 35, none⟩), .pointer (some ⟨w.heap.size, 0, none⟩), .int .u64 130]) (w.alloc (.cells #[.int .i64 n] 35)) := by kernel_rfl
theorem valueOfFlt (x y z : Value) (w : World) : (ReflectliteValue.unpack (.iface 67 (.agg #[x, y, z]))).run Tryz.prog w
   = .ok (.agg #[.pointer (some ⟨2, 67, none⟩), .pointer (some ⟨w.heap.size, 0, none⟩), .int .u64 153]) (w.alloc (.cells #[x, y, z] 67)) := by kernel_rfl
theorem typeE (a : Addr) (w : World) : (ReflectliteValue.methodAny (ReflectliteValue.valueError "reflectlite.Value.Type" 0) (fun t _ _ _ => ReflectliteType.toType t) #[.agg #[.pointer (some ⟨2, 65, none⟩), .pointer (some a), .int .u64 150]]).run Tryz.prog w
   = .ok (.iface 112 (.agg #[.pointer (some ⟨2, 65, none⟩)])) w := by kernel_rfl
theorem typeF (a : Addr) (w : World) : (ReflectliteValue.methodAny (ReflectliteValue.valueError "reflectlite.Value.Type" 0) (fun t _ _ _ => ReflectliteType.toType t) #[.agg #[.pointer (some ⟨2, 68, none⟩), .pointer (some a), .int .u64 150]]).run Tryz.prog w
   = .ok (.iface 112 (.agg #[.pointer (some ⟨2, 68, none⟩)])) w := by kernel_rfl
theorem methodKind (h : Value) (w : World) : (Go.method (Tryz.prog.types.size + Made.depth) 112 (.agg #[h]) "Kind").run Tryz.prog w = .ok (104, h) w := by kernel_rfl
theorem kindE (w : World) : ((ReflectliteType.abiMethod fun t => (fun a : Nat => Value.int IntKind.u8 (a : Int)) <$> Rtype.kind t) #[.pointer (some ⟨2, 65, none⟩)]).run Tryz.prog w = .ok (.int .u8 22) w := by kernel_rfl
theorem kindF (w : World) : ((ReflectliteType.abiMethod fun t => (fun a : Nat => Value.int IntKind.u8 (a : Int)) <$> Rtype.kind t) #[.pointer (some ⟨2, 68, none⟩)]).run Tryz.prog w = .ok (.int .u8 22) w := by kernel_rfl
theorem kind28 (w : World) : ((ReflectliteType.abiMethod fun t => (fun a : Nat => Value.int IntKind.u8 (a : Int)) <$> Rtype.kind t) #[.pointer (some ⟨2, 35, none⟩)]).run Tryz.prog w = .ok (.int .u8 2) w := by kernel_rfl
theorem kind27 (w : World) : ((ReflectliteType.abiMethod fun t => (fun a : Nat => Value.int IntKind.u8 (a : Int)) <$> Rtype.kind t) #[.pointer (some ⟨2, 67, none⟩)]).run Tryz.prog w = .ok (.int .u8 25) w := by kernel_rfl
theorem methodElem (h : Value) (w : World) : (Go.method (Tryz.prog.types.size + Made.depth) 112 (.agg #[h]) "Elem").run Tryz.prog w = .ok (116, .agg #[h]) w := by kernel_rfl
theorem methodImplements (h : Value) (w : World) : (Go.method (Tryz.prog.types.size + Made.depth) 112 (.agg #[h]) "Implements").run Tryz.prog w = .ok (117, .agg #[h]) w := by kernel_rfl
theorem methodAssignableTo (h : Value) (w : World) : (Go.method (Tryz.prog.types.size + Made.depth) 112 (.agg #[h]) "AssignableTo").run Tryz.prog w = .ok (114, .agg #[h]) w := by kernel_rfl
theorem methodUnwrap (x y z : Value) (w : World) : (Go.method (Tryz.prog.types.size + Made.depth) 67 (.agg #[x, y, z]) "Unwrap").run Tryz.prog w = .ok (109, .agg #[x, y, z]) w := by kernel_rfl
theorem elemE (w : World) : (ReflectliteType.method ReflectliteType.elem #[.agg #[.pointer (some ⟨2, 65, none⟩)]]).run Tryz.prog w = .ok (.iface 112 (.agg #[.pointer (some ⟨2, 35, none⟩)])) w := by kernel_rfl
theorem elemF (w : World) : (ReflectliteType.method ReflectliteType.elem #[.agg #[.pointer (some ⟨2, 68, none⟩)]]).run Tryz.prog w = .ok (.iface 112 (.agg #[.pointer (some ⟨2, 67, none⟩)])) w := by kernel_rfl
theorem implements28 (w : World) : (ReflectliteType.relation "Implements" ReflectliteType.implements_ #[.agg #[.pointer (some ⟨2, 35, none⟩)], .iface 112 (.agg #[.pointer (some ⟨2, 31, none⟩)])]).run Tryz.prog w = .ok (.bool true) w := by kernel_rfl
theorem implements27 (w : World) : (ReflectliteType.relation "Implements" ReflectliteType.implements_ #[.agg #[.pointer (some ⟨2, 67, none⟩)], .iface 112 (.agg #[.pointer (some ⟨2, 31, none⟩)])]).run Tryz.prog w = .ok (.bool true) w := by kernel_rfl
theorem typeOf28 (v : Value) (w : World) : (ReflectliteType.typeOf #[.iface 35 v]).run Tryz.prog w = .ok (.iface 112 (.agg #[.pointer (some ⟨2, 35, none⟩)])) w := by kernel_rfl
theorem typeOf27 (v : Value) (w : World) : (ReflectliteType.typeOf #[.iface 67 v]).run Tryz.prog w = .ok (.iface 112 (.agg #[.pointer (some ⟨2, 67, none⟩)])) w := by kernel_rfl
theorem assignable (w : World) : (ReflectliteType.relation "AssignableTo" ReflectliteType.assignableTo #[.agg #[.pointer (some ⟨2, 35, none⟩)], .iface 112 (.agg #[.pointer (some ⟨2, 35, none⟩)])]).run Tryz.prog w = .ok (.bool true) w ∧
   (ReflectliteType.relation "AssignableTo" ReflectliteType.assignableTo #[.agg #[.pointer (some ⟨2, 67, none⟩)], .iface 112 (.agg #[.pointer (some ⟨2, 35, none⟩)])]).run Tryz.prog w = .ok (.bool false) w ∧
   (ReflectliteType.relation "AssignableTo" ReflectliteType.assignableTo #[.agg #[.pointer (some ⟨2, 35, none⟩)], .iface 112 (.agg #[.pointer (some ⟨2, 67, none⟩)])]).run Tryz.prog w = .ok (.bool false) w ∧
   (ReflectliteType.relation "AssignableTo" ReflectliteType.assignableTo #[.agg #[.pointer (some ⟨2, 67, none⟩)], .iface 112 (.agg #[.pointer (some ⟨2, 67, none⟩)])]).run Tryz.prog w = .ok (.bool true) w :=
 ⟨by kernel_rfl, by kernel_rfl, by kernel_rfl, by kernel_rfl⟩
theorem rlm (z : Sem Value) (f : TypeId → Addr → Nat → Nat → Sem Value) (v : Value) :
   ReflectliteValue.method z f #[v] = (do match ← ReflectliteValue.parts v with | none => z | some (t, a, fl) => f t a fl (fl % 32)) := rfl
theorem partsE (a : Addr) (w : World) : (ReflectliteValue.parts (.agg #[.pointer (some ⟨2, 65, none⟩), .pointer (some a), .int .u64 150])).run Tryz.prog w = .ok (some (65, a, 150)) w := by kernel_rfl
theorem partsF (a : Addr) (w : World) : (ReflectliteValue.parts (.agg #[.pointer (some ⟨2, 68, none⟩), .pointer (some a), .int .u64 150])).run Tryz.prog w = .ok (some (68, a, 150)) w := by kernel_rfl
theorem isNilE (a p : Addr) (W : World) (ha : W.cell? a = some (.pointer (some p))) :
   (ReflectliteValue.method (ReflectliteValue.valueError "reflectlite.Value.IsNil" 0) ReflectliteValue.isNil #[.agg #[.pointer (some ⟨2, 65, none⟩), .pointer (some a), .int .u64 150]]).run Tryz.prog W = .ok (.bool false) W := by
 rw [rlm]
 simp only [Sem.run_bind, partsE, Result.andThen]
 simp [ReflectliteValue.isNil, loadVar, isAgg, underlying, Tryz.underlying65, ha, Result.andThen]
theorem isNilF (a p : Addr) (W : World) (ha : W.cell? a = some (.pointer (some p))) :
   (ReflectliteValue.method (ReflectliteValue.valueError "reflectlite.Value.IsNil" 0) ReflectliteValue.isNil #[.agg #[.pointer (some ⟨2, 68, none⟩), .pointer (some a), .int .u64 150]]).run Tryz.prog W = .ok (.bool false) W := by
 rw [rlm]
 simp only [Sem.run_bind, partsF, Result.andThen]
 simp [ReflectliteValue.isNil, loadVar, isAgg, underlying, Tryz.underlying68, ha, Result.andThen]
theorem elemOfE (w : World) : (Rtype.elem? 65).run Tryz.prog w = .ok (some 35) w := by kernel_rfl
theorem elemOfF (w : World) : (Rtype.elem? 68).run Tryz.prog w = .ok (some 67) w := by kernel_rfl
theorem mk28 (p : Addr) (w : World) : (ReflectliteValue.mk 35 p ReflectliteValue.flagAddr).run Tryz.prog w = .ok (.agg #[.pointer (some ⟨2, 35, none⟩), .pointer (some p), .int .u64 386]) w := by kernel_rfl
theorem mk27 (p : Addr) (w : World) : (ReflectliteValue.mk 67 p ReflectliteValue.flagAddr).run Tryz.prog w = .ok (.agg #[.pointer (some ⟨2, 67, none⟩), .pointer (some p), .int .u64 409]) w := by kernel_rfl
theorem elemVE (a p : Addr) (W : World) (ha : W.cell? a = some (.pointer (some p))) :
   (ReflectliteValue.method (ReflectliteValue.valueError "reflectlite.Value.Elem" 0) ReflectliteValue.elem #[.agg #[.pointer (some ⟨2, 65, none⟩), .pointer (some a), .int .u64 150]]).run Tryz.prog W
     = .ok (.agg #[.pointer (some ⟨2, 35, none⟩), .pointer (some p), .int .u64 386]) W := by
 rw [rlm]
 simp only [Sem.run_bind, partsE, Result.andThen]
 simp [ReflectliteValue.elem, loadVar, isAgg, underlying, Tryz.underlying65, ha, Result.andThen, elemOfE, mk28]
theorem elemVF (a p : Addr) (W : World) (ha : W.cell? a = some (.pointer (some p))) :
   (ReflectliteValue.method (ReflectliteValue.valueError "reflectlite.Value.Elem" 0) ReflectliteValue.elem #[.agg #[.pointer (some ⟨2, 68, none⟩), .pointer (some a), .int .u64 150]]).run Tryz.prog W
     = .ok (.agg #[.pointer (some ⟨2, 67, none⟩), .pointer (some p), .int .u64 409]) W := by
 rw [rlm]
 simp only [Sem.run_bind, partsF, Result.andThen]
 simp [ReflectliteValue.elem, loadVar, isAgg, underlying, Tryz.underlying68, ha, Result.andThen, elemOfF, mk27]
theorem rls (v x : Value) : ReflectliteValue.set #[v, x] = (do
   let (some (dst, a, fl), some (src, b, _)) := (← ReflectliteValue.parts v, ← ReflectliteValue.parts x)
     | unsupported (.noEntry "extern/(internal/reflectlite.Value).Set.zeroValue")
   if fl / ReflectliteValue.flagAddr % 2 == 0 then unsupported (.noEntry "extern/(internal/reflectlite.Value).Set.unaddressable")
   let val ← loadVar src b
   if ← Rtype.directlyAssignable dst src then storeVar dst a val
   else if ← Rtype.implements dst src then
     if (← Rtype.kind src) == 20 then
       match val with
       | .nilIface => unsupported (.noEntry "extern/reflectlite: a nil value of one interface type handed on as a value of another")
       | _ => storeVar dst a val
     else storeVar dst a (.iface src val)
   else panicString ("reflectlite.Set: value of type " ++ (← Rtype.spelt src) ++ " is not assignable to type " ++ (← Rtype.spelt dst))
   pure (.tuple #[])) := rfl
theorem parts28a (a : Addr) (w : World) : (ReflectliteValue.parts (.agg #[.pointer (some ⟨2, 35, none⟩), .pointer (some a), .int .u64 386])).run Tryz.prog w = .ok (some (35, a, 386)) w := by kernel_rfl
theorem parts28 (a : Addr) (w : World) : (ReflectliteValue.parts (.agg #[.pointer (some ⟨2, 35, none⟩), .pointer (some a), .int .u64 130])).run Tryz.prog w = .ok (some (35, a, 130)) w := by kernel_rfl
theorem parts27a (a : Addr) (w : World) : (ReflectliteValue.parts (.agg #[.pointer (some ⟨2, 67, none⟩), .pointer (some a), .int .u64 409])).run Tryz.prog w = .ok (some (67, a, 409)) w := by kernel_rfl
theorem parts27 (a : Addr) (w : World) : (ReflectliteValue.parts (.agg #[.pointer (some ⟨2, 67, none⟩), .pointer (some a), .int .u64 153])).run Tryz.prog w = .ok (some (67, a, 153)) w := by kernel_rfl
theorem direct28 (w : World) : (Rtype.directlyAssignable 35 35).run Tryz.prog w = .ok true w := by kernel_rfl
theorem direct27 (w : World) : (Rtype.directlyAssignable 67 67).run Tryz.prog w = .ok true w := by kernel_rfl
theorem setE (a b : Addr) (v : Value) (W W' : World) (hb : (loadVar 35 b).run Tryz.prog W = .ok v W) (hs : (storeVar 35 a v).run Tryz.prog W = .ok () W') :
   (ReflectliteValue.set #[.agg #[.pointer (some ⟨2, 35, none⟩), .pointer (some a), .int .u64 386], .agg #[.pointer (some ⟨2, 35, none⟩), .pointer (some b), .int .u64 130]]).run Tryz.prog W = .ok (.tuple #[]) W' := by
 rw [rls]
 simp only [Sem.run_bind, parts28a, parts28, Result.andThen]
 simp [ReflectliteValue.flagAddr, Result.andThen, hb, direct28, hs]
theorem setF (a b : Addr) (v : Value) (W W' : World) (hb : (loadVar 67 b).run Tryz.prog W = .ok v W) (hs : (storeVar 67 a v).run Tryz.prog W = .ok () W') :
   (ReflectliteValue.set #[.agg #[.pointer (some ⟨2, 67, none⟩), .pointer (some a), .int .u64 409], .agg #[.pointer (some ⟨2, 67, none⟩), .pointer (some b), .int .u64 153]]).run Tryz.prog W = .ok (.tuple #[]) W' := by
 rw [rls]
 simp only [Sem.run_bind, parts27a, parts27, Result.andThen]
 simp [ReflectliteValue.flagAddr, Result.andThen, hb, direct27, hs]
end Go.Proofs.YtpmpajodihpkaaaGreatDoor
namespace Go.Ua
open Go Go.Proofs Go.Extern
section
variable {P : Program} [Globs P] {τ : Tab} {cx : Cx P} {Q : Exit → Act → World → Prop}
def rv3 (gb t : Nat) (p : AV) (fl : Int) : AV := .agg [.d (.s (.tok gb t)), p, .d (.s (.int .u64 fl))]
theorem rv3_ptr {R : Rd} {ι : Io} {gb t n i off k : Nat} {fl : Int} {v : Value} (h : RepV R ι (rv3 gb t (.ptr n i off k) fl) v) :
   ∃ b c l, ι n = some (.blk b c l) ∧ v = .agg #[.pointer (some ⟨gb, t, none⟩), .pointer (some ⟨b, i * k + off, none⟩), .int .u64 fl] := by
 cases h with
 | agg _ vs hl h1 hr =>
   match vs, hl with
   | [x, y, z], _ =>
     have e1 := rep_s (hr 0 _ _ rfl rfl)
     have e2 := hr 1 _ _ rfl rfl
     have e3 := rep_s (hr 2 _ _ rfl rfl)
     subst e1; subst e3
     cases e2 with
     | ptr _ _ _ _ b c l hi => exact ⟨b, c, l, hi, rfl⟩
theorem AKp.valueOf {F : Fam} (hF : F = Fam.real) (hτ : TabOK P τ) {n : Nat} (hn : cx.nt = n) {all r : List Oper} {k : List KI} {S : St} {o : Oper} {c : Call} {f : FuncId} {fn : Func} {t gb : Nat} {fl : Int} {x x0 : AV} (k0 : Nat)
   (hf : P.funcs[f]? = some fn) (hname : (fn.name == "runtime.NumGoroutine") = false) (hb : fn.body.isNone = true) (hn2 : Extern.findNext fn = none) (he : Extern.find fn = some (fun args => ReflectliteValue.unpack (args.getD 0 (.tuple #[]))))
   (ho : o.op = .call c) (hc : c.callee = .value (.func f)) (hg : guardB all S o = some true) (hd : dstB n o = true) (hargs : evls S c.args.toList = [x0])
   (hform : ∀ (R : Rd) (ι : Io) (v : Value), RepV R ι x0 v → ∃ u, v = .iface t u ∧ RepV R ι x u) (hst : x.st = true)
   (hrun : ∀ (R : Rd) (ι : Io) (u : Value) (w : World), RepV R ι x u → (ReflectliteValue.unpack (.iface t u)).run P w = .ok (.agg #[.pointer (some ⟨gb, t, none⟩), .pointer (some ⟨w.heap.size, 0, none⟩), .int .u64 fl]) (w.alloc (.cells u.cells t)))
   (hfl : (Sc.int .u64 fl).ok)
   (next : AKp P cx Q (runC (Ar.of F) τ n 100000 (.ops all r :: k) ((S.new (.cs t x.cells)).put o.dst (rv3 gb t (.ptr S.fr 0 0 k0) fl)))) : AKp P cx Q (.ops all (o :: r) :: k, S) := by
 refine AKp.op (S' := S.new (.cs t x.cells)) hF hτ hn hg hd (fun ι a w HR => ?_) next
 obtain ⟨h1, h2⟩ := evls_rep HR c.args.toList
 rw [hargs] at h1 h2
 obtain ⟨v, hvs⟩ : ∃ v, c.args.toList.map a.eval = [v] := by
   match h : c.args.toList.map a.eval, h1 with
   | [v], _ => exact ⟨v, rfl⟩
 rw [hvs] at h2
 obtain ⟨u, rfl, hu⟩ := hform _ _ v (h2 0 _ _ rfl rfl)
 obtain ⟨vs, hvs2, hvl, hv1, hvr⟩ := hu.cells hst
 obtain ⟨g1, g2, g3⟩ := HR.alloc (B := .cs t x.cells) (o := .cells vs.toArray t (0, 0)) (cap := 1) (len := 0)
   (fun R' ι' w' hR hι hi hb => .cs t _ _ _ _ vs hi hb hvl.symm hv1 (fun j c v hc hv => (hvr j c v hc hv).mono hR hι))
 refine ⟨.agg #[.pointer (some ⟨gb, t, none⟩), .pointer (some ⟨w.heap.size, 0, none⟩), .int .u64 fl], _, _, exec_ext ho hc hf hname hb hn2 he ?_, g1, ?_⟩
 · rw [hvs]
   have := hrun _ _ u w hu
   rw [hvs2] at this
   exact this
 · refine .agg _ [.pointer (some ⟨gb, t, none⟩), .pointer (some ⟨w.heap.size, 0, none⟩), .int .u64 fl] rfl (by intro v hv; simp at hv; rcases hv with rfl | rfl | rfl <;> rfl) fun i c v hc hv => ?_
   match i, hc, hv with
   | 0, hc, hv => cases hc; cases hv; exact .d _ _ (.s (.tok gb t) trivial)
   | 1, hc, hv =>
     cases hc; cases hv
     have := RepV.ptr (R := rdOf cx.L (upd ι S.fr (.blk w.heap.size 1 0)) (S.new (.cs t x.cells)).h (w.alloc (.cells vs.toArray t (0, 0)))) (ι := upd ι S.fr (.blk w.heap.size 1 0)) S.fr 0 0 k0 w.heap.size 1 0 (by simp [upd])
     simpa using this
   | 2, hc, hv => cases hc; cases hv; exact .d _ _ (.s (.int .u64 fl) hfl)
   | i + 3, hc, hv => simp at hc
theorem AKp.viaPtr {F : Fam} (hF : F = Fam.real) (hτ : TabOK P τ) {n : Nat} (hn : cx.nt = n) {all r : List Oper} {k : List KI} {S : St} {o : Oper} {c : Call} {f : FuncId} {fn : Func} {e : Array Value → Sem Value} {t gb m km T : Nat} {fl : Int} {q i off kq : Nat} (z : AV)
   (hf : P.funcs[f]? = some fn) (hname : (fn.name == "runtime.NumGoroutine") = false) (hb : fn.body.isNone = true) (hn2 : Extern.findNext fn = none) (he : Extern.find fn = some e)
   (ho : o.op = .call c) (hc : c.callee = .value (.func f)) (hg : guardB all S o = some true) (hd : dstB n o = true) (hargs : evls S c.args.toList = [rv3 gb t (.ptr m 0 0 km) fl])
   (hblk : look m S.h = some (.cs T [.ptr q i off kq]))
   (hrun : ∀ (a p : Addr) (w : World), w.cell? a = some (.pointer (some p)) → ∃ v, (e #[.agg #[.pointer (some ⟨gb, t, none⟩), .pointer (some a), .int .u64 fl]]).run P w = .ok v w ∧ ∀ (R : Rd) (ι : Io), RepV R ι (.ptr q i off kq) (.pointer (some p)) → RepV R ι z v)
   (next : AKp P cx Q (runC (Ar.of F) τ n 100000 (.ops all r :: k) (S.put o.dst z))) : AKp P cx Q (.ops all (o :: r) :: k, S) := by
 refine AKp.op (S' := S) hF hτ hn hg hd (fun ι a w HR => ?_) next
 obtain ⟨h1, h2⟩ := evls_rep HR c.args.toList
 rw [hargs] at h1 h2
 obtain ⟨v, hvs⟩ : ∃ v, c.args.toList.map a.eval = [v] := by
   match h : c.args.toList.map a.eval, h1 with
   | [v], _ => exact ⟨v, rfl⟩
 rw [hvs] at h2
 obtain ⟨b, c0, l0, hi, rfl⟩ := rv3_ptr (h2 0 _ _ rfl rfl)
 cases HR.hr.hp m _ hblk with
 | cs _ _ b' cap l cur hi' hbk hl h1' hr =>
   rw [hi] at hi'; cases hi'
   match cur, hl with
   | [u], _ =>
     have hu := hr 0 _ _ rfl rfl
     cases hu with
     | ptr _ _ _ _ b2 c2 l2 hi2 =>
       have hcell : w.cell? ⟨b, 0 * km + 0, none⟩ = some (.pointer (some ⟨b2, i * kq + off, none⟩)) := by
         rw [Nat.zero_mul, cell_of_row w b _ _ _ _ hbk]; rfl
       obtain ⟨v, hv, hz⟩ := hrun _ _ w hcell
       exact ⟨v, w, ι, exec_ext ho hc hf hname hb hn2 he (by rw [hvs]; exact hv), HR, hz _ _ (.ptr _ _ _ _ _ _ _ hi2)⟩
theorem AKp.setV {F : Fam} (hF : F = Fam.real) (hτ : TabOK P τ) {n : Nat} (hn : cx.nt = n) {all r : List Oper} {k : List KI} {S S' : St} {o : Oper} {c : Call} {f : FuncId} {fn : Func} {t gb m km q i off kq : Nat} {fl1 fl2 : Int} {z : AV}
   (hf : P.funcs[f]? = some fn) (hname : (fn.name == "runtime.NumGoroutine") = false) (hb : fn.body.isNone = true) (hn2 : Extern.findNext fn = none) (he : Extern.find fn = some ReflectliteValue.set)
   (ho : o.op = .call c) (hc : c.callee = .value (.func f)) (hg : guardB all S o = some true) (hd : dstB n o = true) (hargs : evls S c.args.toList = [rv3 gb t (.ptr q i off kq) fl1, rv3 gb t (.ptr m 0 0 km) fl2])
   (hload : loadAV τ S t (.ptr m 0 0 km) = some z) (hne : sizeAt τ t ≠ 0) (hstore : storeOp Ar.real τ S t (.ptr q i off kq) z = some S')
   (hset : ∀ (a b : Addr) (v : Value) (W W' : World), (loadVar t b).run P W = .ok v W → (storeVar t a v).run P W = .ok () W' →
     (ReflectliteValue.set #[.agg #[.pointer (some ⟨gb, t, none⟩), .pointer (some a), .int .u64 fl1], .agg #[.pointer (some ⟨gb, t, none⟩), .pointer (some b), .int .u64 fl2]]).run P W = .ok (.tuple #[]) W')
   (next : AKp P cx Q (runC (Ar.of F) τ n 100000 (.ops all r :: k) (S'.put o.dst (.tup [])))) : AKp P cx Q (.ops all (o :: r) :: k, S) := by
 refine AKp.op (S' := S') hF hτ hn hg hd (fun ι a w HR => ?_) next
 obtain ⟨h1, h2⟩ := evls_rep HR c.args.toList
 rw [hargs] at h1 h2
 obtain ⟨v1, v2, hvs⟩ : ∃ v1 v2, c.args.toList.map a.eval = [v1, v2] := by
   match h : c.args.toList.map a.eval, h1 with
   | [v1, v2], _ => exact ⟨v1, v2, rfl⟩
 rw [hvs] at h2
 have g1 := h2 0 _ _ rfl rfl
 have g2 := h2 1 _ _ rfl rfl
 obtain ⟨b1, c1, l1, hi1, rfl⟩ := rv3_ptr g1
 obtain ⟨b2, c2, l2, hi2, rfl⟩ := rv3_ptr g2
 obtain ⟨u, hu1, hu2⟩ := load_run (P := P) hτ HR.hr (.ptr m 0 0 km b2 c2 l2 hi2) hload
 obtain ⟨w', ι', hs1, hs2, _⟩ := store_run hτ HR (.ptr q i off kq b1 c1 l1 hi1) hu2 hne hstore
 refine ⟨.tuple #[], w', ι', exec_ext ho hc hf hname hb hn2 he ?_, hs2, .tup [] [] rfl (by simp)⟩
 rw [hvs]
 refine hset _ _ u w w' ?_ ?_
 · simpa [Instr.loadAt, Instr.sureAddr] using hu1
 · simpa [Instr.storeAt, Instr.sureAddr] using hs1
end
end Go.Ua
