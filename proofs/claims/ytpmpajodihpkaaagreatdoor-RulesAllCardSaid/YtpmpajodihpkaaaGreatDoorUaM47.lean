/- The library of this claim and its walks, part 47, joined out of smaller texts. No statement stands in it. -/
import Derived.Test.YtpmpajodihpkaaaGreatDoorUaM28
import Derived.Test.YtpmpajodihpkaaaGreatDoorUaM36
import Derived.Test.YtpmpajodihpkaaaGreatDoorUaM46
import Derived.Stop.Asserts
set_option linter.unusedSimpArgs false
set_option linter.unusedVariables false
namespace Go.Proofs.YtpmpajodihpkaaaGreatDoor
open Go Go.Proofs Go.Ua Go.Extern
inductive ErrF where
 | nil
 | num (n : Int)
 | flt (line : Int) (what : List UInt8) (err : ErrF)
def ErrF.dat : ErrF → Dat
 | .nil => .s .if0
 | .num n => .iface 35 (.s (.int .i64 n))
 | .flt l w e => .iface 67 (.agg [.s (.int .i64 l), .s (.str w), e.dat])
def ErrF.depth : ErrF → Nat
 | .flt _ _ e => e.depth + 1
 | _ => 0
def ErrF.num? : ErrF → Option Int
 | .num n => some n
 | .flt _ _ e => e.num?
 | _ => none
theorem Unwrap_spec (l : Int) (w : List UInt8) (e : Dat) : ESpec Tryz.prog 109 [.d (.agg [.s (.int .i64 l), .s (.str w), e])] (fun x => x = .d e) := by
 refine ESpec.enter Tryz.func109 (by kernel_rfl) rfl (Nat.le_of_ble_eq_true rfl) fun _ cx hnt hfr => ?_
 obtain ⟨F, hF⟩ := real_ex
 refine AK.run hF tabOK hnt ?_
 conv => arg 4; cbv
 exact AKp.doneE tabOK hfr (by rfl) (by rfl)
theorem no28_82 (v : Value) (w : World) : (Instr.typeAssert (.iface 35 v) 31 117 true).run Tryz.prog w = .ok (.tuple #[.nilIface, .bool false]) w := run_typeAssert_lacksB Tryz.underlying117 (by kernel_rfl) (by kernel_rfl) v 31 w
theorem no28_85 (v : Value) (w : World) : (Instr.typeAssert (.iface 35 v) 31 120 true).run Tryz.prog w = .ok (.tuple #[.nilIface, .bool false]) w := run_typeAssert_lacksB Tryz.underlying120 (by kernel_rfl) (by kernel_rfl) v 31 w
theorem no28_86 (v : Value) (w : World) : (Instr.typeAssert (.iface 35 v) 31 122 true).run Tryz.prog w = .ok (.tuple #[.nilIface, .bool false]) w := run_typeAssert_lacksB Tryz.underlying122 (by kernel_rfl) (by kernel_rfl) v 31 w
theorem no27_82 (v : Value) (w : World) : (Instr.typeAssert (.iface 67 v) 31 117 true).run Tryz.prog w = .ok (.tuple #[.nilIface, .bool false]) w := run_typeAssert_lacksB Tryz.underlying117 (by kernel_rfl) (by kernel_rfl) v 31 w
theorem is27_85 (v : Value) (w : World) : (Instr.typeAssert (.iface 67 v) 31 120 true).run Tryz.prog w = .ok (.tuple #[.iface 67 v, .bool true]) w := run_typeAssert_hasB Tryz.underlying120 (by kernel_rfl) v 31 w
theorem rtype_rep {R : Rd} {ι : Io} (t : Nat) : RepV R ι (.d (.iface 112 (.agg [.s (.tok 2 t)]))) (.iface 112 (.agg #[.pointer (some ⟨2, t, none⟩)])) := by
 refine .d _ _ (.iface _ _ _ (.agg [.s (.tok 2 t)] [.pointer (some ⟨2, t, none⟩)] rfl (by intro v hv; simp at hv; subst hv; rfl) fun i c v hc hv => ?_))
 match i, hc, hv with
 | 0, hc, hv => cases hc; cases hv; exact .s (.tok 2 t) trivial
 | i + 1, hc, hv => simp at hc
theorem rtype_inv {R : Rd} {t : Nat} {v : Value} (h : RepD R (.agg [.s (.tok 2 t)]) v) : v = .agg #[.pointer (some ⟨2, t, none⟩)] := by
 cases h with
 | agg _ vs hl h1 hr =>
   match vs, hl with
   | [x], _ =>
     have := hr 0 _ _ rfl rfl
     cases this
     rfl
theorem rtype_inv2 {R : Rd} {ι : Io} {t : Nat} {v : Value} (h : RepV R ι (.d (.iface 112 (.agg [.s (.tok 2 t)]))) v) : v = .iface 112 (.agg #[.pointer (some ⟨2, t, none⟩)]) := by
 cases h with
 | d _ _ h =>
   cases h with
   | iface _ _ u hu => rw [rtype_inv hu]
theorem one_arg {α : Type} {x : α} {vs : List Value} {p : α → Value → Prop} (hl : [x].length = vs.length) (hr : ∀ (i : Nat) (y : α) (v : Value), [x][i]? = some y → vs[i]? = some v → p y v) : ∃ v, vs = [v] ∧ p x v := by
 match vs, hl with
 | [v], _ => exact ⟨v, rfl, hr 0 _ _ rfl rfl⟩
theorem H_typeOf (t : Nat) (d : Dat) (fact : ∀ (v : Value) (w : World), (ReflectliteType.typeOf #[.iface t v]).run Tryz.prog w = .ok (.iface 112 (.agg #[.pointer (some ⟨2, t, none⟩)])) w) (R : Rd) (ι : Io) (vs : List Value) (w : World)
   (hl : [AV.d (.iface t d)].length = vs.length) (hr : ∀ (i : Nat) (x : AV) (v : Value), [AV.d (.iface t d)][i]? = some x → vs[i]? = some v → RepV R ι x v) :
   ∃ v, (ReflectliteType.typeOf vs.toArray).run Tryz.prog w = .ok v w ∧ RepV R ι (.d (.iface 112 (.agg [.s (.tok 2 t)]))) v := by
 obtain ⟨v, rfl, hv⟩ := one_arg hl hr
 cases hv with
 | d _ _ h =>
   cases h with
   | iface _ _ u hu => exact ⟨_, fact u w, rtype_rep t⟩
theorem H_assign (t T : Nat) (b : Bool) (fact : ∀ w : World, (ReflectliteType.relation "AssignableTo" ReflectliteType.assignableTo #[.agg #[.pointer (some ⟨2, t, none⟩)], .iface 112 (.agg #[.pointer (some ⟨2, T, none⟩)])]).run Tryz.prog w = .ok (.bool b) w)
   (R : Rd) (ι : Io) (rv : Value) (vs : List Value) (w : World) (hrv : RepD R (.agg [.s (.tok 2 t)]) rv)
   (hl : [AV.d (.iface 112 (.agg [.s (.tok 2 T)]))].length = vs.length) (hr : ∀ (i : Nat) (x : AV) (v : Value), [AV.d (.iface 112 (.agg [.s (.tok 2 T)]))][i]? = some x → vs[i]? = some v → RepV R ι x v) :
   ∃ receiver v, (Go.method (Tryz.prog.types.size + Made.depth) 112 rv "AssignableTo").run Tryz.prog w = .ok (114, receiver) w ∧
     (ReflectliteType.relation "AssignableTo" ReflectliteType.assignableTo (receiver :: vs).toArray).run Tryz.prog w = .ok v w ∧ RepV R ι (.d (.s (.bool b))) v := by
 obtain ⟨v, rfl, hv⟩ := one_arg hl hr
 obtain rfl := rtype_inv2 hv
 obtain rfl := rtype_inv hrv
 exact ⟨_, _, methodAssignableTo _ w, fact w, .d _ _ (.s (.bool b) trivial)⟩
theorem iface_form (t : Nat) (d : Dat) (R : Rd) (ι : Io) (v : Value) (h : RepV R ι (.d (.iface t d)) v) : ∃ u, v = .iface t u ∧ RepV R ι (.d d) u := by
 cases h with
 | d _ _ h =>
   cases h with
   | iface _ _ u hu => exact ⟨u, rfl, .d _ _ hu⟩
theorem iface_formP (t n i o k : Nat) (R : Rd) (ι : Io) (v : Value) (h : RepV R ι (.iface t (.ptr n i o k)) v) : ∃ u, v = .iface t u ∧ RepV R ι (.ptr n i o k) u := by
 cases h with
 | iface _ _ u hu => exact ⟨u, rfl, hu⟩
theorem ErrF.form : ∀ e : ErrF, (e = .nil ∧ e.dat = .s .if0) ∨ (e ≠ .nil ∧ ∃ t x, e.dat = .iface t x)
 | .nil => .inl ⟨rfl, rfl⟩
 | .num n => .inr ⟨by simp, _, _, rfl⟩
 | .flt l w e => .inr ⟨by simp, _, _, rfl⟩
theorem asNum_spec (e : ErrF) (hne : e ≠ .nil) (old : Int) :
   ASpec Tryz.prog 43 [.d e.dat, .iface 65 (.ptr 0 0 0 1), rv3 2 65 (.ptr 1 0 0 1) 150, .d (.iface 112 (.agg [.s (.tok 2 35)]))] [(1, .cs 65 [.ptr 0 0 0 1]), (0, .cs 35 [.d (.s (.int .i64 old))])] 2
     (fun x h' fr' => x = .d (.s (.bool e.num?.isSome)) ∧ h' = [(1, .cs 65 [.ptr 0 0 0 1]), (0, .cs 35 [.d (.s (.int .i64 (e.num?.getD old)))])] ∧ fr' = 2) := by
 obtain ⟨e0, he0⟩ : ∃ e0, e0 = e := ⟨_, rfl⟩
 refine ASpec.enter Tryz.func43 (by kernel_rfl) rfl (Nat.le_of_ble_eq_true rfl) ?_
 intro cx hnt hfr
 obtain ⟨F, hF⟩ := real_ex
 obtain ⟨ed, hed⟩ : ∃ d, d = e.dat := ⟨_, rfl⟩
 rw [← hed]
 refine AK.run hF tabOK hnt ?_
 conv => arg 4; cbv
 refine AKp.enterLoop 16 ?_
 conv => arg 7; cbv
 refine AKl.invL hF tabOK hnt (by rw [hfr]; exact Nat.le_of_ble_eq_true rfl) (fun n vs hs => ∃ e1 : ErrF, e1 ≠ .nil ∧ e1.depth = n ∧ e1.num? = e.num? ∧ vs = [(0, .d e1.dat)] ∧
     hs = [(2, .cs 86 [.d (.s (.tok 2 65)), .ptr 1 0 0 1, .d (.s (.int .u64 150))]), (1, .cs 65 [.ptr 0 0 0 1]), (0, .cs 35 [.d (.s (.int .i64 old))])]) e.depth
   ⟨e, hne, rfl, rfl, by rw [← hed], rfl⟩ (by repeat (first | exact True.intro | refine ⟨⟨rfl, rfl⟩, ?_⟩)) (by repeat (first | exact True.intro | refine ⟨⟨rfl, rfl, rfl⟩, ?_⟩)) ?_
 rintro J n vs hs hJ ⟨e1, hne1, hdep, hnum, rfl, rfl⟩
 cases e1 with
 | nil => exact absurd rfl hne1
 | num m =>
   conv => arg 4; cbv
   refine AKp.ext0 hF tabOK hnt Tryz.func60 (by kernel_rfl) (by kernel_rfl) (by kernel_rfl) (by kernel_rfl) rfl rfl rfl rfl rfl (H_typeOf 35 (.s (.int .i64 m)) typeOf28) ?_
   conv => arg 4; cbv
   refine AKp.inv0 hF tabOK hnt Tryz.func114 (by kernel_rfl) (by kernel_rfl) (by kernel_rfl) (by kernel_rfl) rfl rfl rfl rfl rfl rfl (H_assign 35 35 true fun w => (assignable w).1) ?_
   conv => arg 4; cbv
   refine AKp.viaPtr hF tabOK hnt (rv3 2 35 (.ptr 0 0 0 1) 386) Tryz.func61 (by kernel_rfl) (by kernel_rfl) (by kernel_rfl) (by kernel_rfl) rfl rfl rfl rfl rfl rfl (fun a p w h => ⟨_, elemVE a p w h, fun R ι hp => ?_⟩) ?_
   · refine .agg _ [.pointer (some ⟨2, 35, none⟩), .pointer (some p), .int .u64 386] rfl (by intro v hv; simp at hv; rcases hv with rfl | rfl | rfl <;> rfl) fun i c v hc hv => ?_
     match i, hc, hv with
     | 0, hc, hv => cases hc; cases hv; exact .d _ _ (.s (.tok 2 35) trivial)
     | 1, hc, hv => cases hc; cases hv; exact hp
     | 2, hc, hv => cases hc; cases hv; exact .d _ _ (.s (.int .u64 386) (Sc.ok_of rfl))
     | i + 3, hc, hv => simp at hc
   conv => arg 4; cbv
   refine AKp.valueOf hF tabOK hnt (x := .d (.s (.int .i64 m))) 1 Tryz.func40 (by kernel_rfl) (by kernel_rfl) (by kernel_rfl) (by kernel_rfl) rfl rfl rfl rfl rfl (iface_form 35 _) rfl (fun R ι u w hu => by obtain rfl := rep_s hu; exact valueOfNum m w) (Sc.ok_of rfl) ?_
   conv => arg 4; cbv
   refine AKp.setV hF tabOK hnt Tryz.func62 (by kernel_rfl) (by kernel_rfl) (by kernel_rfl) (by kernel_rfl) rfl rfl rfl rfl rfl rfl (by decide) rfl setE ?_
   conv => arg 4; cbv
   exact AKp.doneN (h' := [(1, .cs 65 [.ptr 0 0 0 1]), (0, .cs 35 [.d (.s (.int .i64 m))])]) tabOK hfr (by rfl) (by repeat (first | exact True.intro | refine ⟨⟨rfl, rfl, rfl⟩, ?_⟩)) ⟨by rw [← hnum]; rfl, by rw [← hnum]; rfl, rfl⟩
 | flt l w e2 =>
   have sp := Unwrap_spec l w e2.dat
   obtain ⟨d2, hd2⟩ : ∃ d, d = e2.dat := ⟨_, rfl⟩
   have hfd : (ErrF.flt l w e2).dat = .iface 67 (.agg [.s (.int .i64 l), .s (.str w), d2]) := by rw [hd2]; rfl
   rw [← hd2] at sp
   rw [hfd]
   conv => arg 4; cbv
   refine AKp.ext0 hF tabOK hnt Tryz.func60 (by kernel_rfl) (by kernel_rfl) (by kernel_rfl) (by kernel_rfl) rfl rfl rfl rfl rfl (H_typeOf 67 _ typeOf27) ?_
   conv => arg 4; cbv
   refine AKp.inv0 hF tabOK hnt Tryz.func114 (by kernel_rfl) (by kernel_rfl) (by kernel_rfl) (by kernel_rfl) rfl rfl rfl rfl rfl rfl (H_assign 67 35 false fun w => (assignable w).2.1) ?_
   conv => arg 4; cbv
   refine AKp.tassert hF tabOK hnt false rfl rfl rfl rfl (fun R rv w h => no27_82 rv w) ?_
   conv => arg 4; cbv
   refine AKp.tassert hF tabOK hnt true rfl rfl rfl rfl (fun R rv w h => is27_85 rv w) ?_
   conv => arg 4; cbv
   refine AKp.callI hF tabOK hnt sp rfl rfl rfl rfl rfl rfl (fun R rv w h => ?_) ?_
   · cases h with
     | agg _ vs hl h1 hr =>
       match vs, hl with
       | [x, y, z], _ => exact methodUnwrap x y z w
   rintro _ rfl
   conv => arg 4; cbv
   rcases e2.form with ⟨hn2, hf2⟩ | ⟨hn2, t2, x2, hf2⟩
   · rw [hd2, hf2]
     conv => arg 4; cbv
     exact AKp.doneN (h' := [(1, .cs 65 [.ptr 0 0 0 1]), (0, .cs 35 [.d (.s (.int .i64 old))])]) tabOK hfr (by rfl) (by repeat (first | exact True.intro | refine ⟨⟨rfl, rfl, rfl⟩, ?_⟩)) ⟨by rw [← hnum, hn2]; rfl, by rw [← hnum, hn2]; rfl, rfl⟩
   · rw [hf2] at hd2
     rw [hd2]
     conv => arg 4; cbv
     exact AKp.againL _ (by rw [hfr]; exact Nat.le_of_ble_eq_true rfl) (by repeat (first | exact True.intro | refine ⟨⟨rfl, rfl⟩, ?_⟩)) (by repeat (first | exact True.intro | refine ⟨⟨rfl, rfl, rfl⟩, ?_⟩)) (hJ e2.depth [(0, .d (.iface t2 x2))] _ (by rw [← hdep]; exact Nat.lt_succ_self _) ⟨e2, hn2, rfl, by rw [← hnum]; rfl, by rw [hf2], rfl⟩)
theorem H_type (T : Nat) (fact : ∀ (a : Addr) (w : World), (ReflectliteValue.methodAny (ReflectliteValue.valueError "reflectlite.Value.Type" 0) (fun t _ _ _ => ReflectliteType.toType t) #[.agg #[.pointer (some ⟨2, T, none⟩), .pointer (some a), .int .u64 150]]).run Tryz.prog w
   = .ok (.iface 112 (.agg #[.pointer (some ⟨2, T, none⟩)])) w) (n i off k : Nat) (R : Rd) (ι : Io) (vs : List Value) (w : World)
   (hl : [rv3 2 T (.ptr n i off k) 150].length = vs.length) (hr : ∀ (j : Nat) (x : AV) (v : Value), [rv3 2 T (.ptr n i off k) 150][j]? = some x → vs[j]? = some v → RepV R ι x v) :
   ∃ v, (ReflectliteValue.methodAny (ReflectliteValue.valueError "reflectlite.Value.Type" 0) (fun t _ _ _ => ReflectliteType.toType t) vs.toArray).run Tryz.prog w = .ok v w ∧ RepV R ι (.d (.iface 112 (.agg [.s (.tok 2 T)]))) v := by
 obtain ⟨v, rfl, hv⟩ := one_arg hl hr
 obtain ⟨b, c, l, hi, rfl⟩ := rv3_ptr hv
 exact ⟨_, fact _ w, rtype_rep T⟩
theorem H_kind (t n : Nat) (fact : ∀ w : World, ((ReflectliteType.abiMethod fun t => (fun a : Nat => Value.int IntKind.u8 (a : Int)) <$> Rtype.kind t) #[.pointer (some ⟨2, t, none⟩)]).run Tryz.prog w = .ok (.int .u8 n) w) (hn : (Sc.int .u8 n).ok)
   (R : Rd) (ι : Io) (rv : Value) (vs : List Value) (w : World) (hrv : RepD R (.agg [.s (.tok 2 t)]) rv) (hl : ([] : List AV).length = vs.length) (hr : ∀ (i : Nat) (x : AV) (v : Value), ([] : List AV)[i]? = some x → vs[i]? = some v → RepV R ι x v) :
   ∃ receiver v, (Go.method (Tryz.prog.types.size + Made.depth) 112 rv "Kind").run Tryz.prog w = .ok (104, receiver) w ∧
     ((ReflectliteType.abiMethod fun t => (do pure (.int .u8 (← Rtype.kind t)))) (receiver :: vs).toArray).run Tryz.prog w = .ok v w ∧ RepV R ι (.d (.s (.int .u8 n))) v := by
 obtain rfl : vs = [] := List.eq_nil_of_length_eq_zero (by simpa using hl.symm)
 obtain rfl := rtype_inv hrv
 exact ⟨_, _, methodKind _ w, fact w, .d _ _ (.s (.int .u8 n) hn)⟩
theorem H_elem (T t : Nat) (fact : ∀ w : World, (ReflectliteType.method ReflectliteType.elem #[.agg #[.pointer (some ⟨2, T, none⟩)]]).run Tryz.prog w = .ok (.iface 112 (.agg #[.pointer (some ⟨2, t, none⟩)])) w)
   (R : Rd) (ι : Io) (rv : Value) (vs : List Value) (w : World) (hrv : RepD R (.agg [.s (.tok 2 T)]) rv) (hl : ([] : List AV).length = vs.length) (hr : ∀ (i : Nat) (x : AV) (v : Value), ([] : List AV)[i]? = some x → vs[i]? = some v → RepV R ι x v) :
   ∃ receiver v, (Go.method (Tryz.prog.types.size + Made.depth) 112 rv "Elem").run Tryz.prog w = .ok (116, receiver) w ∧
     (ReflectliteType.method ReflectliteType.elem (receiver :: vs).toArray).run Tryz.prog w = .ok v w ∧ RepV R ι (.d (.iface 112 (.agg [.s (.tok 2 t)]))) v := by
 obtain rfl : vs = [] := List.eq_nil_of_length_eq_zero (by simpa using hl.symm)
 obtain rfl := rtype_inv hrv
 exact ⟨_, _, methodElem _ w, fact w, rtype_rep t⟩
theorem H_implements (t : Nat) (fact : ∀ w : World, (ReflectliteType.relation "Implements" ReflectliteType.implements_ #[.agg #[.pointer (some ⟨2, t, none⟩)], .iface 112 (.agg #[.pointer (some ⟨2, 31, none⟩)])]).run Tryz.prog w = .ok (.bool true) w)
   (R : Rd) (ι : Io) (rv : Value) (vs : List Value) (w : World) (hrv : RepD R (.agg [.s (.tok 2 t)]) rv)
   (hl : [AV.d (.iface 112 (.agg [.s (.tok 2 31)]))].length = vs.length) (hr : ∀ (i : Nat) (x : AV) (v : Value), [AV.d (.iface 112 (.agg [.s (.tok 2 31)]))][i]? = some x → vs[i]? = some v → RepV R ι x v) :
   ∃ receiver v, (Go.method (Tryz.prog.types.size + Made.depth) 112 rv "Implements").run Tryz.prog w = .ok (117, receiver) w ∧
     (ReflectliteType.relation "Implements" ReflectliteType.implements_ (receiver :: vs).toArray).run Tryz.prog w = .ok v w ∧ RepV R ι (.d (.s (.bool true))) v := by
 obtain ⟨v, rfl, hv⟩ := one_arg hl hr
 obtain rfl := rtype_inv2 hv
 obtain rfl := rtype_inv hrv
 exact ⟨_, _, methodImplements _ w, fact w, .d _ _ (.s (.bool true) trivial)⟩
theorem AsNum_spec (e : ErrF) (old : Int) :
   ASpec Tryz.prog 25 [.d e.dat, .iface 65 (.ptr 0 0 0 1)] [(0, .cs 35 [.d (.s (.int .i64 old))])] 1
     (fun x h' fr' => x = .d (.s (.bool e.num?.isSome)) ∧ h' = [(0, .cs 35 [.d (.s (.int .i64 (e.num?.getD old)))])] ∧ fr' = 1) := by
 refine ASpec.enter Tryz.func25 (by kernel_rfl) rfl (Nat.le_of_ble_eq_true rfl) ?_
 intro cx hnt hfr
 obtain ⟨F, hF⟩ := real_ex
 rcases e.form with ⟨hn2, hf2⟩ | ⟨hn2, t2, x2, hf2⟩
 · rw [hf2, hn2]
   refine AK.run hF tabOK hnt ?_
   conv => arg 4; cbv
   exact AKp.doneN (h' := [(0, .cs 35 [.d (.s (.int .i64 old))])]) tabOK hfr (by rfl) (by repeat (first | exact True.intro | refine ⟨⟨rfl, rfl, rfl⟩, ?_⟩)) ⟨rfl, rfl, rfl⟩
 have sp := asNum_spec e hn2 old
 rw [hf2] at sp ⊢
 generalize e.num?.isSome = zb at *
 generalize e.num?.getD old = zn at *
 refine AK.run hF tabOK hnt ?_
 conv => arg 4; cbv
 refine AKp.valueOf hF tabOK hnt (x := .ptr 0 0 0 1) 1 Tryz.func40 (by kernel_rfl) (by kernel_rfl) (by kernel_rfl) (by kernel_rfl) rfl rfl rfl rfl (by rfl) (iface_formP 65 0 0 0 1) rfl (fun R ι u w hu => by cases hu; exact valueOfE _ w) (Sc.ok_of rfl) ?_
 conv => arg 4; cbv
 refine AKp.ext0 hF tabOK hnt Tryz.func41 (by kernel_rfl) (by kernel_rfl) (by kernel_rfl) (by kernel_rfl) rfl rfl rfl rfl rfl (H_type 65 typeE 1 0 0 1) ?_
 conv => arg 4; cbv
 refine AKp.inv0 hF tabOK hnt Tryz.func104 (by kernel_rfl) (by kernel_rfl) (by kernel_rfl) (by kernel_rfl) rfl rfl rfl rfl rfl rfl (H_kind 65 22 kindE (Sc.ok_of rfl)) ?_
 conv => arg 4; cbv
 rw [show F .eqI (Int.ofNat 22) 22 = true by rw [hF]; rfl, show F .not true = false by rw [hF]; rfl]
 conv => arg 4; cbv
 refine AKp.viaPtr hF tabOK hnt (.d (.s (.bool false))) Tryz.func42 (by kernel_rfl) (by kernel_rfl) (by kernel_rfl) (by kernel_rfl) rfl rfl rfl rfl rfl rfl (fun a p w h => ⟨_, isNilE a p w h, fun R ι hp => .d _ _ (.s (.bool false) trivial)⟩) ?_
 conv => arg 4; cbv
 refine AKp.inv0 hF tabOK hnt Tryz.func116 (by kernel_rfl) (by kernel_rfl) (by kernel_rfl) (by kernel_rfl) rfl rfl rfl rfl rfl rfl (H_elem 65 35 elemE) ?_
 conv => arg 4; cbv
 refine AKp.inv0 hF tabOK hnt Tryz.func104 (by kernel_rfl) (by kernel_rfl) (by kernel_rfl) (by kernel_rfl) rfl rfl rfl rfl rfl rfl (H_kind 35 2 kind28 (Sc.ok_of rfl)) ?_
 conv => arg 4; cbv
 rw [show F .eqI (Int.ofNat 2) 20 = false by rw [hF]; rfl, show F .not false = true by rw [hF]; rfl]
 conv => arg 4; cbv
 refine AKp.loadG hF tabOK hnt (v := .iface 112 (.agg #[.pointer (some ⟨2, 31, none⟩)])) (z := .d (.iface 112 (.agg [.s (.tok 2 31)]))) rfl rfl rfl G_err (fun w hw => ?_) (fun R ι => rtype_rep 31) ?_
 · simp [Instr.loadAt, Instr.sureAddr, loadVar, isAgg, underlying, Tryz.underlying89, hw, Result.andThen]
 conv => arg 4; cbv
 refine AKp.inv0 hF tabOK hnt Tryz.func117 (by kernel_rfl) (by kernel_rfl) (by kernel_rfl) (by kernel_rfl) rfl rfl rfl rfl rfl rfl (H_implements 35 implements28) ?_
 conv => arg 4; cbv
 rw [show F .not true = false by rw [hF]; rfl]
 conv => arg 4; cbv
 refine AKp.call1 hF tabOK hnt sp rfl rfl rfl rfl rfl rfl rfl rfl rfl (by repeat (first | exact True.intro | refine ⟨⟨rfl, rfl, rfl⟩, ?_⟩)) ?_
 rintro x h' fr' ⟨rfl, rfl, rfl⟩
 conv => arg 4; cbv
 exact AKp.doneN (h' := [(0, .cs 35 [.d (.s (.int .i64 zn))])]) tabOK hfr (by rfl) (by repeat (first | exact True.intro | refine ⟨⟨rfl, rfl, rfl⟩, ?_⟩)) ⟨rfl, rfl, rfl⟩
end Go.Proofs.YtpmpajodihpkaaaGreatDoor
namespace Go.Proofs.YtpmpajodihpkaaaGreatDoor
open Go Go.Proofs Go.Ua Go.Extern
def ErrF.isFlt : ErrF → Bool
 | .flt _ _ _ => true
 | _ => false
def ErrF.fltOr (e : ErrF) (c : List AV) : List AV := match e with
 | .flt l w e => [.d (.s (.int .i64 l)), .d (.s (.str w)), .d e.dat]
 | _ => c
theorem asFlt_spec (e : ErrF) (hne : e ≠ .nil) (c1 c2 c3 : Dat) :
   ASpec Tryz.prog 43 [.d e.dat, .iface 68 (.ptr 0 0 0 3), rv3 2 68 (.ptr 1 0 0 1) 150, .d (.iface 112 (.agg [.s (.tok 2 67)]))] [(1, .cs 68 [.ptr 0 0 0 3]), (0, .cs 67 [.d c1, .d c2, .d c3])] 2
     (fun x h' fr' => x = .d (.s (.bool e.isFlt)) ∧ h' = [(1, .cs 68 [.ptr 0 0 0 3]), (0, .cs 67 (e.fltOr [.d c1, .d c2, .d c3]))] ∧ fr' = 2) := by
 refine ASpec.enter Tryz.func43 (by kernel_rfl) rfl (Nat.le_of_ble_eq_true rfl) ?_
 intro cx hnt hfr
 obtain ⟨F, hF⟩ := real_ex
 obtain ⟨ed, hed⟩ : ∃ d, d = e.dat := ⟨_, rfl⟩
 rw [← hed]
 refine AK.run hF tabOK hnt ?_
 conv => arg 4; cbv
 refine AKp.enterLoop 16 ?_
 conv => arg 7; cbv
 refine AKl.invL hF tabOK hnt (by rw [hfr]; exact Nat.le_of_ble_eq_true rfl) (fun n vs hs => vs = [(0, .d ed)] ∧
     hs = [(2, .cs 86 [.d (.s (.tok 2 68)), .ptr 1 0 0 1, .d (.s (.int .u64 150))]), (1, .cs 68 [.ptr 0 0 0 3]), (0, .cs 67 [.d c1, .d c2, .d c3])]) 0
   ⟨rfl, rfl⟩ (by repeat (first | exact True.intro | refine ⟨⟨rfl, rfl⟩, ?_⟩)) (by repeat (first | exact True.intro | refine ⟨⟨rfl, rfl, rfl⟩, ?_⟩)) ?_
 rintro J n vs hs hJ ⟨rfl, rfl⟩
 rw [hed]
 cases e with
 | nil => exact absurd rfl hne
 | num m =>
   conv => arg 4; cbv
   refine AKp.ext0 hF tabOK hnt Tryz.func60 (by kernel_rfl) (by kernel_rfl) (by kernel_rfl) (by kernel_rfl) rfl rfl rfl rfl rfl (H_typeOf 35 (.s (.int .i64 m)) typeOf28) ?_
   conv => arg 4; cbv
   refine AKp.inv0 hF tabOK hnt Tryz.func114 (by kernel_rfl) (by kernel_rfl) (by kernel_rfl) (by kernel_rfl) rfl rfl rfl rfl rfl rfl (H_assign 35 67 false fun w => (assignable w).2.2.1) ?_
   conv => arg 4; cbv
   refine AKp.tassert hF tabOK hnt false rfl rfl rfl rfl (fun R rv w h => no28_82 rv w) ?_
   conv => arg 4; cbv
   refine AKp.tassert hF tabOK hnt false rfl rfl rfl rfl (fun R rv w h => no28_85 rv w) ?_
   conv => arg 4; cbv
   refine AKp.tassert hF tabOK hnt false rfl rfl rfl rfl (fun R rv w h => no28_86 rv w) ?_
   conv => arg 4; cbv
   exact AKp.doneN (h' := [(1, .cs 68 [.ptr 0 0 0 3]), (0, .cs 67 [.d c1, .d c2, .d c3])]) tabOK hfr (by rfl) (by repeat (first | exact True.intro | refine ⟨⟨rfl, rfl, rfl⟩, ?_⟩)) ⟨rfl, rfl, rfl⟩
 | flt l w e2 =>
   obtain ⟨d2, hd2⟩ : ∃ d, d = e2.dat := ⟨_, rfl⟩
   have hfd : (ErrF.flt l w e2).dat = .iface 67 (.agg [.s (.int .i64 l), .s (.str w), d2]) := by rw [hd2]; rfl
   rw [hfd]
   conv => arg 4; cbv
   refine AKp.ext0 hF tabOK hnt Tryz.func60 (by kernel_rfl) (by kernel_rfl) (by kernel_rfl) (by kernel_rfl) rfl rfl rfl rfl rfl (H_typeOf 67 _ typeOf27) ?_
   conv => arg 4; cbv
   refine AKp.inv0 hF tabOK hnt Tryz.func114 (by kernel_rfl) (by kernel_rfl) (by kernel_rfl) (by kernel_rfl) rfl rfl rfl rfl rfl rfl (H_assign 67 67 true fun w => (assignable w).2.2.2) ?_
   conv => arg 4; cbv
   refine AKp.viaPtr hF tabOK hnt (rv3 2 67 (.ptr 0 0 0 3) 409) Tryz.func61 (by kernel_rfl) (by kernel_rfl) (by kernel_rfl) (by kernel_rfl) rfl rfl rfl rfl rfl rfl (fun a p w h => ⟨_, elemVF a p w h, fun R ι hp => ?_⟩) ?_
   · refine .agg _ [.pointer (some ⟨2, 67, none⟩), .pointer (some p), .int .u64 409] rfl (by intro v hv; simp at hv; rcases hv with rfl | rfl | rfl <;> rfl) fun i c v hc hv => ?_
     match i, hc, hv with
     | 0, hc, hv => cases hc; cases hv; exact .d _ _ (.s (.tok 2 67) trivial)
     | 1, hc, hv => cases hc; cases hv; exact hp
     | 2, hc, hv => cases hc; cases hv; exact .d _ _ (.s (.int .u64 409) (Sc.ok_of rfl))
     | i + 3, hc, hv => simp at hc
   conv => arg 4; cbv
   refine AKp.valueOf hF tabOK hnt (x := .d (.agg [.s (.int .i64 l), .s (.str w), d2])) 3 Tryz.func40 (by kernel_rfl) (by kernel_rfl) (by kernel_rfl) (by kernel_rfl) rfl rfl rfl rfl (by rfl) (iface_form 67 _) rfl (fun R ι u w hu => by
     cases hu with
     | d _ _ hu =>
       cases hu with
       | agg _ vs hl h1 hr =>
         match vs, hl with
         | [x, y, z], _ => exact valueOfFlt x y z w) (Sc.ok_of rfl) ?_
   conv => arg 4; cbv
   refine AKp.setV hF tabOK hnt Tryz.func62 (by kernel_rfl) (by kernel_rfl) (by kernel_rfl) (by kernel_rfl) rfl rfl rfl rfl rfl rfl (by decide) rfl setF ?_
   conv => arg 4; cbv
   exact AKp.doneN (h' := [(1, .cs 68 [.ptr 0 0 0 3]), (0, .cs 67 [.d (.s (.int .i64 l)), .d (.s (.str w)), .d d2])]) tabOK hfr (by rfl) (by repeat (first | exact True.intro | refine ⟨⟨rfl, rfl, rfl⟩, ?_⟩)) ⟨rfl, by rw [hd2]; rfl, rfl⟩
theorem AsFlt_spec (e : ErrF) (c1 c2 c3 : Dat) :
   ASpec Tryz.prog 25 [.d e.dat, .iface 68 (.ptr 0 0 0 3)] [(0, .cs 67 [.d c1, .d c2, .d c3])] 1
     (fun x h' fr' => x = .d (.s (.bool e.isFlt)) ∧ h' = [(0, .cs 67 (e.fltOr [.d c1, .d c2, .d c3]))] ∧ fr' = 1) := by
 refine ASpec.enter Tryz.func25 (by kernel_rfl) rfl (Nat.le_of_ble_eq_true rfl) ?_
 intro cx hnt hfr
 obtain ⟨F, hF⟩ := real_ex
 rcases e.form with ⟨hn2, hf2⟩ | ⟨hn2, t2, x2, hf2⟩
 · rw [hf2, hn2]
   refine AK.run hF tabOK hnt ?_
   conv => arg 4; cbv
   exact AKp.doneN (h' := [(0, .cs 67 [.d c1, .d c2, .d c3])]) tabOK hfr (by rfl) (by repeat (first | exact True.intro | refine ⟨⟨rfl, rfl, rfl⟩, ?_⟩)) ⟨rfl, rfl, rfl⟩
 have sp := asFlt_spec e hn2 c1 c2 c3
 rw [hf2] at sp ⊢
 obtain ⟨l1, l2, l3, hl⟩ : ∃ l1 l2 l3, e.fltOr [.d c1, .d c2, .d c3] = [.d l1, .d l2, .d l3] := by
   cases e <;> exact ⟨_, _, _, rfl⟩
 rw [hl] at sp ⊢
 generalize e.isFlt = zb at *
 refine AK.run hF tabOK hnt ?_
 conv => arg 4; cbv
 refine AKp.valueOf hF tabOK hnt (x := .ptr 0 0 0 3) 1 Tryz.func40 (by kernel_rfl) (by kernel_rfl) (by kernel_rfl) (by kernel_rfl) rfl rfl rfl rfl (by rfl) (iface_formP 68 0 0 0 3) rfl (fun R ι u w hu => by cases hu; exact valueOfF _ w) (Sc.ok_of rfl) ?_
 conv => arg 4; cbv
 refine AKp.ext0 hF tabOK hnt Tryz.func41 (by kernel_rfl) (by kernel_rfl) (by kernel_rfl) (by kernel_rfl) rfl rfl rfl rfl rfl (H_type 68 typeF 1 0 0 1) ?_
 conv => arg 4; cbv
 refine AKp.inv0 hF tabOK hnt Tryz.func104 (by kernel_rfl) (by kernel_rfl) (by kernel_rfl) (by kernel_rfl) rfl rfl rfl rfl rfl rfl (H_kind 68 22 kindF (Sc.ok_of rfl)) ?_
 conv => arg 4; cbv
 rw [show F .eqI (Int.ofNat 22) 22 = true by rw [hF]; rfl, show F .not true = false by rw [hF]; rfl]
 conv => arg 4; cbv
 refine AKp.viaPtr hF tabOK hnt (.d (.s (.bool false))) Tryz.func42 (by kernel_rfl) (by kernel_rfl) (by kernel_rfl) (by kernel_rfl) rfl rfl rfl rfl rfl rfl (fun a p w h => ⟨_, isNilF a p w h, fun R ι hp => .d _ _ (.s (.bool false) trivial)⟩) ?_
 conv => arg 4; cbv
 refine AKp.inv0 hF tabOK hnt Tryz.func116 (by kernel_rfl) (by kernel_rfl) (by kernel_rfl) (by kernel_rfl) rfl rfl rfl rfl rfl rfl (H_elem 68 67 elemF) ?_
 conv => arg 4; cbv
 refine AKp.inv0 hF tabOK hnt Tryz.func104 (by kernel_rfl) (by kernel_rfl) (by kernel_rfl) (by kernel_rfl) rfl rfl rfl rfl rfl rfl (H_kind 67 25 kind27 (Sc.ok_of rfl)) ?_
 conv => arg 4; cbv
 rw [show F .eqI (Int.ofNat 25) 20 = false by rw [hF]; rfl, show F .not false = true by rw [hF]; rfl]
 conv => arg 4; cbv
 refine AKp.loadG hF tabOK hnt (v := .iface 112 (.agg #[.pointer (some ⟨2, 31, none⟩)])) (z := .d (.iface 112 (.agg [.s (.tok 2 31)]))) rfl rfl rfl G_err (fun w hw => ?_) (fun R ι => rtype_rep 31) ?_
 · simp [Instr.loadAt, Instr.sureAddr, loadVar, isAgg, underlying, Tryz.underlying89, hw, Result.andThen]
 conv => arg 4; cbv
 refine AKp.inv0 hF tabOK hnt Tryz.func117 (by kernel_rfl) (by kernel_rfl) (by kernel_rfl) (by kernel_rfl) rfl rfl rfl rfl rfl rfl (H_implements 67 implements27) ?_
 conv => arg 4; cbv
 rw [show F .not true = false by rw [hF]; rfl]
 conv => arg 4; cbv
 refine AKp.call1 hF tabOK hnt sp rfl rfl rfl rfl rfl rfl rfl rfl rfl (by repeat (first | exact True.intro | refine ⟨⟨rfl, rfl, rfl⟩, ?_⟩)) ?_
 rintro x h' fr' ⟨rfl, rfl, rfl⟩
 conv => arg 4; cbv
 exact AKp.doneN (h' := [(0, .cs 67 [.d l1, .d l2, .d l3])]) tabOK hfr (by rfl) (by repeat (first | exact True.intro | refine ⟨⟨rfl, rfl, rfl⟩, ?_⟩)) ⟨rfl, rfl, rfl⟩
end Go.Proofs.YtpmpajodihpkaaaGreatDoor
namespace Go.Proofs.YtpmpajodihpkaaaGreatDoor
open Go Go.Proofs Go.Ua Go.Extern
theorem f_not1 {F : Fam} (hF : F = Fam.real) : F .not true = false := by rw [hF]; rfl
theorem f_not0 {F : Fam} (hF : F = Fam.real) : F .not false = true := by rw [hF]; rfl
def codeF : ErrF → Int
 | .nil => 0
 | e => e.num?.getD 1
theorem FCode_spec (e : ErrF) : ESpec Tryz.prog 10 [.d e.dat] (fun x => x = .d (.s (.int .i64 (codeF e)))) := by
 rcases e.form with ⟨hn2, hf2⟩ | ⟨hn2, t2, x2, hf2⟩
 · rw [hf2, hn2]
   refine ESpec.enter Tryz.func10 (by kernel_rfl) rfl (Nat.le_of_ble_eq_true rfl) fun _ cx hnt hfr => ?_
   obtain ⟨F, hF⟩ := real_ex
   refine AK.run hF tabOK hnt ?_
   conv => arg 4; cbv
   exact AKp.doneE tabOK hfr (by rfl) (by rfl)
 have sp := AsNum_spec e 0
 rw [hf2] at sp ⊢
 have hc : codeF e = e.num?.getD 1 := by cases e <;> first | rfl | exact absurd rfl hn2
 rw [hc]
 obtain ⟨zb, zn, hz, h1, h2⟩ : ∃ zb zn, e.num?.getD 1 = (if zb then zn else 1) ∧ e.num?.isSome = zb ∧ e.num?.getD 0 = zn := by
   cases e.num? <;> exact ⟨_, _, rfl, rfl, rfl⟩
 rw [h1, h2] at sp
 rw [hz]
 clear hz h1 h2 hc
 refine ESpec.enter Tryz.func10 (by kernel_rfl) rfl (Nat.le_of_ble_eq_true rfl) fun _ cx hnt hfr => ?_
 obtain ⟨F, hF⟩ := real_ex
 refine AK.run hF tabOK hnt ?_
 conv => arg 4; cbv
 refine AKp.call1 hF tabOK hnt sp rfl rfl rfl rfl rfl rfl rfl rfl rfl (by repeat (first | exact True.intro | refine ⟨⟨rfl, rfl, rfl⟩, ?_⟩)) ?_
 rintro x h' fr' ⟨rfl, rfl, rfl⟩
 conv => arg 4; cbv
 cases zb
 · conv => arg 4; cbv
   exact AKp.doneE tabOK hfr (by rfl) (by rfl)
 · conv => arg 4; cbv
   exact AKp.doneE tabOK hfr (by rfl) (by rfl)
theorem fcode_spec (n e : Int) (w : List UInt8) : ESpec Tryz.prog 10 [.d (.iface 67 (.agg [.s (.int .i64 n), .s (.str w), .iface 35 (.s (.int .i64 e))]))] (fun x => x = .d (.s (.int .i64 e))) := FCode_spec (.flt n w (.num e))
def φFCode  : List AV → Option (Bool × AV)
 | [.d (.iface 67 (.agg [.s (.int .i64 n), .s (.str w), .iface 35 (.s (.int .i64 e))]))] => some (true, .d (.s (.int .i64 e)))
 | _ => none
theorem φFCode_ok : SpOK Tryz.prog 10 (φFCode ) := by
 intro xs b x h hb
 unfold φFCode at h
 split at h
 · simp only [Option.some.injEq, Prod.mk.injEq] at h
   obtain ⟨rfl, rfl⟩ := h
   exact fcode_spec _ _ _
 · cases h
end Go.Proofs.YtpmpajodihpkaaaGreatDoor
namespace Go.Proofs.YtpmpajodihpkaaaGreatDoor
open Go Go.Proofs Go.Ua Go.Extern
def whatF : ErrF → List UInt8
 | .flt _ w e => if w ≠ [] then w else whatF e
 | _ => []
theorem FWhat_spec (e : ErrF) : ESpec Tryz.prog 11 [.d e.dat] (fun x => x = .d (.s (.str (whatF e)))) := by
 obtain ⟨ed, hed⟩ : ∃ d, d = e.dat := ⟨_, rfl⟩
 rw [← hed]
 refine ESpec.enter Tryz.func11 (by kernel_rfl) rfl (Nat.le_of_ble_eq_true rfl) fun _ cx hnt hfr => ?_
 obtain ⟨F, hF⟩ := real_ex
 refine AK.run hF tabOK hnt ?_
 conv => arg 4; cbv
 refine AKp.enterLoop 4 ?_
 conv => arg 7; cbv
 refine AKl.inv hF tabOK hnt hfr (fun n vs hs => ∃ (e1 : ErrF) (d1 c1 c2 c3 : Dat), d1 = e1.dat ∧ e1.depth = n ∧ whatF e1 = whatF e ∧ vs = [(0, .d d1)] ∧ hs = [(0, .cs 67 [.d c1, .d c2, .d c3])]) e.depth
   ⟨e, ed, _, _, _, hed, rfl, rfl, rfl, rfl⟩ (by repeat (first | exact True.intro | refine ⟨⟨rfl, rfl⟩, ?_⟩)) (by repeat (first | exact True.intro | refine ⟨⟨rfl, rfl, rfl⟩, ?_⟩)) ?_
 rintro J n vs hs hJ ⟨e1, d1, c1, c2, c3, hd1, hdep, hres, rfl, rfl⟩
 conv => arg 4; cbv
 have sp := AsFlt_spec e1 c1 c2 c3
 rw [← hd1] at sp
 cases e1 with
 | flt l w e2 =>
   obtain ⟨d2, hd2⟩ : ∃ d, d = e2.dat := ⟨_, rfl⟩
   simp only [ErrF.isFlt, ErrF.fltOr, ← hd2] at sp
   refine AKp.call1 hF tabOK hnt sp rfl rfl rfl rfl rfl rfl rfl rfl rfl (by repeat (first | exact True.intro | refine ⟨⟨rfl, rfl, rfl⟩, ?_⟩)) ?_
   rintro x h' fr' ⟨rfl, rfl, rfl⟩
   conv => arg 4; cbv
   cases hb : F .eqS w []
   · rw [f_not0 hF]
     conv => arg 4; cbv
     have hb' : w ≠ [] := fun e => by rw [e, hF] at hb; cases hb
     rw [← hres, show whatF (.flt l w e2) = w by simp [whatF, hb']]
     exact AKp.doneE tabOK hfr (by rfl) (by rfl)
   · rw [f_not1 hF]
     conv => arg 4; cbv
     have hb' : w = [] := by rw [hF, f_eqS] at hb; exact eq_of_beq hb
     subst hF
     exact AKp.again _ hfr (by repeat (first | exact True.intro | refine ⟨⟨rfl, rfl⟩, ?_⟩)) (by repeat (first | exact True.intro | refine ⟨⟨rfl, rfl, rfl⟩, ?_⟩)) (hJ e2.depth _ _ (by rw [← hdep]; exact Nat.lt_succ_self _) ⟨e2, d2, _, _, _, hd2, rfl, by rw [← hres]; simp [whatF, hb'], rfl, rfl⟩)
 | nil =>
   simp only [ErrF.isFlt, ErrF.fltOr] at sp
   refine AKp.call1 hF tabOK hnt sp rfl rfl rfl rfl rfl rfl rfl rfl rfl (by repeat (first | exact True.intro | refine ⟨⟨rfl, rfl, rfl⟩, ?_⟩)) ?_
   rintro x h' fr' ⟨rfl, rfl, rfl⟩
   conv => arg 4; cbv
   rw [← hres]
   exact AKp.doneE tabOK hfr (by rfl) (by rfl)
 | num m =>
   simp only [ErrF.isFlt, ErrF.fltOr] at sp
   refine AKp.call1 hF tabOK hnt sp rfl rfl rfl rfl rfl rfl rfl rfl rfl (by repeat (first | exact True.intro | refine ⟨⟨rfl, rfl, rfl⟩, ?_⟩)) ?_
   rintro x h' fr' ⟨rfl, rfl, rfl⟩
   conv => arg 4; cbv
   rw [← hres]
   exact AKp.doneE tabOK hfr (by rfl) (by rfl)
theorem fwhat_spec (n e : Int) (w : List UInt8) : ESpec Tryz.prog 11 [.d (.iface 67 (.agg [.s (.int .i64 n), .s (.str w), .iface 35 (.s (.int .i64 e))]))] (fun x => x = .d (.s (.str w))) := by
 have h := FWhat_spec (.flt n w (.num e))
 have e1 : whatF (.flt n w (.num e)) = w := by
   simp only [whatF]
   split
   · rfl
   · rename_i h
     exact (Decidable.not_not.1 h).symm
 rw [e1] at h
 exact h
def φFWhat  : List AV → Option (Bool × AV)
 | [.d (.iface 67 (.agg [.s (.int .i64 n), .s (.str w), .iface 35 (.s (.int .i64 e))]))] => some (true, .d (.s (.str w)))
 | _ => none
theorem φFWhat_ok : SpOK Tryz.prog 11 (φFWhat ) := by
 intro xs b x h hb
 unfold φFWhat at h
 split at h
 · simp only [Option.some.injEq, Prod.mk.injEq] at h
   obtain ⟨rfl, rfl⟩ := h
   exact fwhat_spec _ _ _
 · cases h
theorem fwhat0_spec : ESpec Tryz.prog 11 [.d (.s .if0)] (fun x => x = .d (.s (.str []))) := FWhat_spec .nil
def φFWhat0  : List AV → Option (Bool × AV)
 | [.d (.s .if0)] => some (true, .d (.s (.str [])))
 | _ => none
theorem φFWhat0_ok : SpOK Tryz.prog 11 (φFWhat0 ) := by
 intro xs b x h hb
 unfold φFWhat0 at h
 split at h
 · simp only [Option.some.injEq, Prod.mk.injEq] at h
   obtain ⟨rfl, rfl⟩ := h
   exact fwhat0_spec
 · cases h
theorem fcode0_spec : ESpec Tryz.prog 10 [.d (.s .if0)] (fun x => x = .d (.s (.int .i64 0))) := FCode_spec .nil
def φFCode0  : List AV → Option (Bool × AV)
 | [.d (.s .if0)] => some (true, .d (.s (.int .i64 0)))
 | _ => none
theorem φFCode0_ok : SpOK Tryz.prog 10 (φFCode0 ) := by
 intro xs b x h hb
 unfold φFCode0 at h
 split at h
 · simp only [Option.some.injEq, Prod.mk.injEq] at h
   obtain ⟨rfl, rfl⟩ := h
   exact fcode0_spec
 · cases h
end Go.Proofs.YtpmpajodihpkaaaGreatDoor
namespace Go.Proofs.YtpmpajodihpkaaaGreatDoor
open Go Go.Proofs Go.Ua Go.Extern
set_option maxRecDepth 10000
theorem check0_spec : ESpec Tryz.prog 8 [.d (.agg [.s (.int .i64 0), .s (.int .i64 0), .s (.int .i64 0), .s (.int .i64 0), .view 10 [], .view 5 []])] (fun x => x = .d (.iface 67 (.agg [.s (.int .i64 0), .s (.str [116,111,116,97,108]), .iface 35 (.s (.int .i64 12))]))) := by
 have h := rcheck_spec 0 0 0 0 [] [] rfl
 rw [show rchD ⟨0, 0, 0, 0, unLv [], unSm []⟩ = .iface 67 (.agg [.s (.int .i64 0), .s (.str [116,111,116,97,108]), .iface 35 (.s (.int .i64 12))]) by rfl] at h
 exact h
def φCheck0  : List AV → Option (Bool × AV)
 | [.d (.agg [.s (.int .i64 0), .s (.int .i64 0), .s (.int .i64 0), .s (.int .i64 0), .view 10 [], .view 5 []])] => some (true, .d (.iface 67 (.agg [.s (.int .i64 0), .s (.str [116,111,116,97,108]), .iface 35 (.s (.int .i64 12))])))
 | _ => none
theorem φCheck0_ok : SpOK Tryz.prog 8 (φCheck0 ) := by
 intro xs b x h hb
 unfold φCheck0 at h
 split at h
 · simp only [Option.some.injEq, Prod.mk.injEq] at h
   obtain ⟨rfl, rfl⟩ := h
   exact check0_spec
 · cases h
theorem awake13_spec : ESpec Tryz.prog 4 [] (fun x => x = .d (.s (.bool true))) := by
 have hG : TblOK Tryz.prog [(8, .p (φCheck0 )), (10, .p (φFCode )), (11, .p (φFWhat ))] := ⟨φCheck0_ok, φFCode_ok, φFWhat_ok, trivial⟩
 refine ESpec.enter Tryz.func4 (by kernel_rfl) rfl (Nat.le_of_ble_eq_true rfl) fun hok cx hnt hfr => ?_
 obtain ⟨F, hF⟩ := real_ex
 refine AK.runT hF tabOK hmix hnt hfr true _ hG ?_
 conv => arg 4; cbv
 have b1 : F .not false = true := by rw [hF]; rfl
 have b2 : F .eqI 12 12 = true := by rw [hF]; rfl
 have b3 : F .eqS [116,111,116,97,108] [116,111,116,97,108] = true := by rw [hF]; rfl
 repeat' (first|with_reducible (first|refine qAh ?_|refine qAt ?_|refine qAf ?_|refine qAy (by assumption) ?_|refine qAn (by assumption) ?_|refine qAd (fun hb => ?_) (fun hb => ?_)|refine qAe ?_ (fun hb => ?_)|refine qAl ?_)|((with_reducible show _=true); assumption))
 refine AKp.doneE tabOK hfr (by rfl) ?_
 show _ = _
 simp only [tupAV]
 rw [b3]
def φAwake13  : List AV → Option (Bool × AV)
 | [] => some (true, .d (.s (.bool true)))
 | _ => none
theorem φAwake13_ok : SpOK Tryz.prog 4 (φAwake13 ) := by
 intro xs b x h hb
 unfold φAwake13 at h
 split at h
 · simp only [Option.some.injEq, Prod.mk.injEq] at h
   obtain ⟨rfl, rfl⟩ := h
   exact awake13_spec
 · cases h
end Go.Proofs.YtpmpajodihpkaaaGreatDoor
