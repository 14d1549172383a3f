/- errors.As, at the two targets. -/
import Derived.Test.YtfblglnfplpagaaDoorUaNine2
import Derived.Test.YtfblglnfplpagaaDoorUaU
import Derived.Stop.Asserts
namespace Go.Proofs.YtfblglnfplpagaaDoor
open Go Go.Proofs Go.Ua Go.Extern
set_option linter.unusedVariables false

/-- The errors of this program. -/
inductive ErrF where
  | nil
  | num (n : Int)
  | other (m : List UInt8)
  | flt (line : Int) (what : List UInt8) (err : ErrF)

def ErrF.dat : ErrF → Dat
  | .nil => .s .if0
  | .num n => .iface 28 (.s (.int .i64 n))
  | .other m => .iface 72 (.vref [.s (.str m)])
  | .flt l w e => .iface 27 (.agg [.s (.int .i64 l), .s (.str w), e.dat])

def ErrF.depth : ErrF → Nat
  | .flt _ _ e => e.depth + 1
  | _ => 0

def ErrF.num? : ErrF → Option Int
  | .num n => some n
  | .flt _ _ e => e.num?
  | _ => none

theorem Unwrap_spec (l : Int) (w : List UInt8) (e : Dat) : ESpec Tryd.prog 12 [.d (.agg [.s (.int .i64 l), .s (.str w), e])] (fun x => x = .d e) := by
  refine ESpec.enter Tryd.func12 (by kernel_rfl) rfl (Nat.le_of_ble_eq_true rfl) fun _ cx hnt hfr => ?_
  obtain ⟨F, hF⟩ := real_ex
  refine AK.run hF tabOK hnt ?_
  conv => arg 4; cbv
  exact AKp.doneE tabOK hfr (by rfl) (by rfl)

theorem no28_82 (v : Value) (w : World) : (Instr.typeAssert (.iface 28 v) 25 82 true).run Tryd.prog w = .ok (.tuple #[.nilIface, .bool false]) w := run_typeAssert_lacksB Tryd.underlying82 (by kernel_rfl) (by kernel_rfl) v 25 w
theorem no28_85 (v : Value) (w : World) : (Instr.typeAssert (.iface 28 v) 25 85 true).run Tryd.prog w = .ok (.tuple #[.nilIface, .bool false]) w := run_typeAssert_lacksB Tryd.underlying85 (by kernel_rfl) (by kernel_rfl) v 25 w
theorem no28_86 (v : Value) (w : World) : (Instr.typeAssert (.iface 28 v) 25 86 true).run Tryd.prog w = .ok (.tuple #[.nilIface, .bool false]) w := run_typeAssert_lacksB Tryd.underlying86 (by kernel_rfl) (by kernel_rfl) v 25 w
theorem no28_89 (v : Value) (w : World) : (Instr.typeAssert (.iface 28 v) 25 89 true).run Tryd.prog w = .ok (.tuple #[.nilIface, .bool false]) w := run_typeAssert_lacksB Tryd.underlying89 (by kernel_rfl) (by kernel_rfl) v 25 w
theorem no72_82 (v : Value) (w : World) : (Instr.typeAssert (.iface 72 v) 25 82 true).run Tryd.prog w = .ok (.tuple #[.nilIface, .bool false]) w := run_typeAssert_lacksB Tryd.underlying82 (by kernel_rfl) (by kernel_rfl) v 25 w
theorem no72_85 (v : Value) (w : World) : (Instr.typeAssert (.iface 72 v) 25 85 true).run Tryd.prog w = .ok (.tuple #[.nilIface, .bool false]) w := run_typeAssert_lacksB Tryd.underlying85 (by kernel_rfl) (by kernel_rfl) v 25 w
theorem no72_86 (v : Value) (w : World) : (Instr.typeAssert (.iface 72 v) 25 86 true).run Tryd.prog w = .ok (.tuple #[.nilIface, .bool false]) w := run_typeAssert_lacksB Tryd.underlying86 (by kernel_rfl) (by kernel_rfl) v 25 w
theorem no72_89 (v : Value) (w : World) : (Instr.typeAssert (.iface 72 v) 25 89 true).run Tryd.prog w = .ok (.tuple #[.nilIface, .bool false]) w := run_typeAssert_lacksB Tryd.underlying89 (by kernel_rfl) (by kernel_rfl) v 25 w
theorem no27_82 (v : Value) (w : World) : (Instr.typeAssert (.iface 27 v) 25 82 true).run Tryd.prog w = .ok (.tuple #[.nilIface, .bool false]) w := run_typeAssert_lacksB Tryd.underlying82 (by kernel_rfl) (by kernel_rfl) v 25 w
theorem is27_85 (v : Value) (w : World) : (Instr.typeAssert (.iface 27 v) 25 85 true).run Tryd.prog w = .ok (.tuple #[.iface 27 v, .bool true]) w := run_typeAssert_hasB Tryd.underlying85 (by kernel_rfl) v 25 w
theorem no27_89 (v : Value) (w : World) : (Instr.typeAssert (.iface 27 v) 25 89 true).run Tryd.prog w = .ok (.tuple #[.nilIface, .bool false]) w := run_typeAssert_lacksB Tryd.underlying89 (by kernel_rfl) (by kernel_rfl) v 25 w

theorem rtype_rep {R : Rd} {ι : Io} (t : Nat) : RepV R ι (.d (.iface 78 (.agg [.s (.tok 4 t)]))) (.iface 78 (.agg #[.pointer (some ⟨4, t, none⟩)])) := by
  refine .d _ _ (.iface _ _ _ (.agg [.s (.tok 4 t)] [.pointer (some ⟨4, t, none⟩)] rfl (by intro v hv; simp at hv; subst hv; rfl) fun i c v hc hv => ?_))
  match i, hc, hv with
  | 0, hc, hv => cases hc; cases hv; exact .s (.tok 4 t) trivial
  | i + 1, hc, hv => simp at hc

theorem rtype_inv {R : Rd} {t : Nat} {v : Value} (h : RepD R (.agg [.s (.tok 4 t)]) v) : v = .agg #[.pointer (some ⟨4, t, none⟩)] := by
  cases h with
  | agg _ vs hl h1 hr =>
    match vs, hl with
    | [x], _ =>
      have := hr 0 _ _ rfl rfl
      cases this
      rfl

theorem rtype_inv2 {R : Rd} {ι : Io} {t : Nat} {v : Value} (h : RepV R ι (.d (.iface 78 (.agg [.s (.tok 4 t)]))) v) : v = .iface 78 (.agg #[.pointer (some ⟨4, t, none⟩)]) := by
  cases h with
  | d _ _ h =>
    cases h with
    | iface _ _ u hu => rw [rtype_inv hu]

theorem one_arg {α : Type} {x : α} {vs : List Value} {p : α → Value → Prop} (hl : [x].length = vs.length) (hr : ∀ (i : Nat) (y : α) (v : Value), [x][i]? = some y → vs[i]? = some v → p y v) : ∃ v, vs = [v] ∧ p x v := by
  match vs, hl with
  | [v], _ => exact ⟨v, rfl, hr 0 _ _ rfl rfl⟩

theorem H_typeOf (t : Nat) (d : Dat) (fact : ∀ (v : Value) (w : World), (ReflectliteType.typeOf #[.iface t v]).run Tryd.prog w = .ok (.iface 78 (.agg #[.pointer (some ⟨4, t, none⟩)])) w) (R : Rd) (ι : Io) (vs : List Value) (w : World)
    (hl : [AV.d (.iface t d)].length = vs.length) (hr : ∀ (i : Nat) (x : AV) (v : Value), [AV.d (.iface t d)][i]? = some x → vs[i]? = some v → RepV R ι x v) :
    ∃ v, (ReflectliteType.typeOf vs.toArray).run Tryd.prog w = .ok v w ∧ RepV R ι (.d (.iface 78 (.agg [.s (.tok 4 t)]))) v := by
  obtain ⟨v, rfl, hv⟩ := one_arg hl hr
  cases hv with
  | d _ _ h =>
    cases h with
    | iface _ _ u hu => exact ⟨_, fact u w, rtype_rep t⟩

theorem H_assign (t T : Nat) (b : Bool) (fact : ∀ w : World, (ReflectliteType.relation "AssignableTo" ReflectliteType.assignableTo #[.agg #[.pointer (some ⟨4, t, none⟩)], .iface 78 (.agg #[.pointer (some ⟨4, T, none⟩)])]).run Tryd.prog w = .ok (.bool b) w)
    (R : Rd) (ι : Io) (rv : Value) (vs : List Value) (w : World) (hrv : RepD R (.agg [.s (.tok 4 t)]) rv)
    (hl : [AV.d (.iface 78 (.agg [.s (.tok 4 T)]))].length = vs.length) (hr : ∀ (i : Nat) (x : AV) (v : Value), [AV.d (.iface 78 (.agg [.s (.tok 4 T)]))][i]? = some x → vs[i]? = some v → RepV R ι x v) :
    ∃ receiver v, (Go.method (Tryd.prog.types.size + Made.depth) 78 rv "AssignableTo").run Tryd.prog w = .ok (70, receiver) w ∧
      (ReflectliteType.relation "AssignableTo" ReflectliteType.assignableTo (receiver :: vs).toArray).run Tryd.prog w = .ok v w ∧ RepV R ι (.d (.s (.bool b))) v := by
  obtain ⟨v, rfl, hv⟩ := one_arg hl hr
  obtain rfl := rtype_inv2 hv
  obtain rfl := rtype_inv hrv
  exact ⟨_, _, methodAssignableTo _ w, fact w, .d _ _ (.s (.bool b) trivial)⟩

theorem iface_form (t : Nat) (d : Dat) (R : Rd) (ι : Io) (v : Value) (h : RepV R ι (.d (.iface t d)) v) : ∃ u, v = .iface t u ∧ RepV R ι (.d d) u := by
  cases h with
  | d _ _ h =>
    cases h with
    | iface _ _ u hu => exact ⟨u, rfl, .d _ _ hu⟩

theorem iface_formP (t n i o k : Nat) (R : Rd) (ι : Io) (v : Value) (h : RepV R ι (.iface t (.ptr n i o k)) v) : ∃ u, v = .iface t u ∧ RepV R ι (.ptr n i o k) u := by
  cases h with
  | iface _ _ u hu => exact ⟨u, rfl, hu⟩

theorem ErrF.form : ∀ e : ErrF, (e = .nil ∧ e.dat = .s .if0) ∨ (e ≠ .nil ∧ ∃ t x, e.dat = .iface t x)
  | .nil => .inl ⟨rfl, rfl⟩
  | .num n => .inr ⟨by simp, _, _, rfl⟩
  | .other m => .inr ⟨by simp, _, _, rfl⟩
  | .flt l w e => .inr ⟨by simp, _, _, rfl⟩

theorem asNum_spec (e : ErrF) (hne : e ≠ .nil) (old : Int) :
    ASpec Tryd.prog 30 [.d e.dat, .iface 54 (.ptr 0 0 0 1), rv3 4 54 (.ptr 1 0 0 1) 150, .d (.iface 78 (.agg [.s (.tok 4 28)]))] [(1, .cs 54 [.ptr 0 0 0 1]), (0, .cs 28 [.d (.s (.int .i64 old))])] 2
      (fun x h' fr' => x = .d (.s (.bool e.num?.isSome)) ∧ h' = [(1, .cs 54 [.ptr 0 0 0 1]), (0, .cs 28 [.d (.s (.int .i64 (e.num?.getD old)))])] ∧ fr' = 2) := by
  obtain ⟨e0, he0⟩ : ∃ e0, e0 = e := ⟨_, rfl⟩
  refine ASpec.enter Tryd.func30 (by kernel_rfl) rfl (Nat.le_of_ble_eq_true rfl) ?_
  intro cx hnt hfr
  obtain ⟨F, hF⟩ := real_ex
  obtain ⟨ed, hed⟩ : ∃ d, d = e.dat := ⟨_, rfl⟩
  rw [← hed]
  refine AK.run hF tabOK hnt ?_
  conv => arg 4; cbv
  refine AKp.enterLoop 16 ?_
  conv => arg 7; cbv
  refine AKl.invL hF tabOK hnt (by rw [hfr]; exact Nat.le_of_ble_eq_true rfl) (fun n vs hs => ∃ e1 : ErrF, e1 ≠ .nil ∧ e1.depth = n ∧ e1.num? = e.num? ∧ vs = [(0, .d e1.dat)] ∧
      hs = [(2, .cs 63 [.d (.s (.tok 4 54)), .ptr 1 0 0 1, .d (.s (.int .u64 150))]), (1, .cs 54 [.ptr 0 0 0 1]), (0, .cs 28 [.d (.s (.int .i64 old))])]) e.depth
    ⟨e, hne, rfl, rfl, by rw [← hed], rfl⟩ (by repeat (first | exact True.intro | refine ⟨⟨rfl, rfl⟩, ?_⟩)) (by repeat (first | exact True.intro | refine ⟨⟨rfl, rfl, rfl⟩, ?_⟩)) ?_
  rintro J n vs hs hJ ⟨e1, hne1, hdep, hnum, rfl, rfl⟩
  cases e1 with
  | nil => exact absurd rfl hne1
  | num m =>
    conv => arg 4; cbv
    refine AKp.ext0 hF tabOK hnt Tryd.func31 (by kernel_rfl) (by kernel_rfl) (by kernel_rfl) (by kernel_rfl) rfl rfl rfl rfl rfl (H_typeOf 28 (.s (.int .i64 m)) typeOf28) ?_
    conv => arg 4; cbv
    refine AKp.inv0 hF tabOK hnt Tryd.func70 (by kernel_rfl) (by kernel_rfl) (by kernel_rfl) (by kernel_rfl) rfl rfl rfl rfl rfl rfl (H_assign 28 28 true fun w => (assignable w).1) ?_
    conv => arg 4; cbv
    refine AKp.viaPtr hF tabOK hnt (rv3 4 28 (.ptr 0 0 0 1) 386) Tryd.func34 (by kernel_rfl) (by kernel_rfl) (by kernel_rfl) (by kernel_rfl) rfl rfl rfl rfl rfl rfl (fun a p w h => ⟨_, elemVE a p w h, fun R ι hp => ?_⟩) ?_
    · refine .agg _ [.pointer (some ⟨4, 28, none⟩), .pointer (some p), .int .u64 386] rfl (by intro v hv; simp at hv; rcases hv with rfl | rfl | rfl <;> rfl) fun i c v hc hv => ?_
      match i, hc, hv with
      | 0, hc, hv => cases hc; cases hv; exact .d _ _ (.s (.tok 4 28) trivial)
      | 1, hc, hv => cases hc; cases hv; exact hp
      | 2, hc, hv => cases hc; cases hv; exact .d _ _ (.s (.int .u64 386) (Sc.ok_of rfl))
      | i + 3, hc, hv => simp at hc
    conv => arg 4; cbv
    refine AKp.valueOf hF tabOK hnt (x := .d (.s (.int .i64 m))) 1 Tryd.func27 (by kernel_rfl) (by kernel_rfl) (by kernel_rfl) (by kernel_rfl) rfl rfl rfl rfl rfl (iface_form 28 _) rfl (fun R ι u w hu => by obtain rfl := rep_s hu; exact valueOfNum m w) (Sc.ok_of rfl) ?_
    conv => arg 4; cbv
    refine AKp.setV hF tabOK hnt Tryd.func35 (by kernel_rfl) (by kernel_rfl) (by kernel_rfl) (by kernel_rfl) rfl rfl rfl rfl rfl rfl (by decide) rfl setE ?_
    conv => arg 4; cbv
    exact AKp.doneN (h' := [(1, .cs 54 [.ptr 0 0 0 1]), (0, .cs 28 [.d (.s (.int .i64 m))])]) tabOK hfr (by rfl) (by repeat (first | exact True.intro | refine ⟨⟨rfl, rfl, rfl⟩, ?_⟩)) ⟨by rw [← hnum]; rfl, by rw [← hnum]; rfl, rfl⟩
  | other m =>
    conv => arg 4; cbv
    refine AKp.ext0 hF tabOK hnt Tryd.func31 (by kernel_rfl) (by kernel_rfl) (by kernel_rfl) (by kernel_rfl) rfl rfl rfl rfl rfl (H_typeOf 72 (.vref [.s (.str m)]) typeOf72) ?_
    conv => arg 4; cbv
    refine AKp.inv0 hF tabOK hnt Tryd.func70 (by kernel_rfl) (by kernel_rfl) (by kernel_rfl) (by kernel_rfl) rfl rfl rfl rfl rfl rfl (H_assign 72 28 false fun w => (assignable w).2.2.1) ?_
    conv => arg 4; cbv
    refine AKp.tassert hF tabOK hnt false rfl rfl rfl rfl (fun R rv w h => no72_82 rv w) ?_
    conv => arg 4; cbv
    refine AKp.tassert hF tabOK hnt false rfl rfl rfl rfl (fun R rv w h => no72_85 rv w) ?_
    conv => arg 4; cbv
    refine AKp.tassert hF tabOK hnt false rfl rfl rfl rfl (fun R rv w h => no72_86 rv w) ?_
    conv => arg 4; cbv
    exact AKp.doneN (h' := [(1, .cs 54 [.ptr 0 0 0 1]), (0, .cs 28 [.d (.s (.int .i64 old))])]) tabOK hfr (by rfl) (by repeat (first | exact True.intro | refine ⟨⟨rfl, rfl, rfl⟩, ?_⟩)) ⟨by rw [← hnum]; rfl, by rw [← hnum]; rfl, rfl⟩
  | flt l w e2 =>
    have sp := Unwrap_spec l w e2.dat
    obtain ⟨d2, hd2⟩ : ∃ d, d = e2.dat := ⟨_, rfl⟩
    have hfd : (ErrF.flt l w e2).dat = .iface 27 (.agg [.s (.int .i64 l), .s (.str w), d2]) := by rw [hd2]; rfl
    rw [← hd2] at sp
    rw [hfd]
    conv => arg 4; cbv
    refine AKp.ext0 hF tabOK hnt Tryd.func31 (by kernel_rfl) (by kernel_rfl) (by kernel_rfl) (by kernel_rfl) rfl rfl rfl rfl rfl (H_typeOf 27 _ typeOf27) ?_
    conv => arg 4; cbv
    refine AKp.inv0 hF tabOK hnt Tryd.func70 (by kernel_rfl) (by kernel_rfl) (by kernel_rfl) (by kernel_rfl) rfl rfl rfl rfl rfl rfl (H_assign 27 28 false fun w => (assignable w).2.1) ?_
    conv => arg 4; cbv
    refine AKp.tassert hF tabOK hnt false rfl rfl rfl rfl (fun R rv w h => no27_82 rv w) ?_
    conv => arg 4; cbv
    refine AKp.tassert hF tabOK hnt true rfl rfl rfl rfl (fun R rv w h => is27_85 rv w) ?_
    conv => arg 4; cbv
    refine AKp.callI hF tabOK hnt sp rfl rfl rfl rfl rfl rfl (fun R rv w h => ?_) ?_
    · cases h with
      | agg _ vs hl h1 hr =>
        match vs, hl with
        | [x, y, z], _ => exact methodUnwrap x y z w
    rintro _ rfl
    conv => arg 4; cbv
    rcases e2.form with ⟨hn2, hf2⟩ | ⟨hn2, t2, x2, hf2⟩
    · rw [hd2, hf2]
      conv => arg 4; cbv
      exact AKp.doneN (h' := [(1, .cs 54 [.ptr 0 0 0 1]), (0, .cs 28 [.d (.s (.int .i64 old))])]) tabOK hfr (by rfl) (by repeat (first | exact True.intro | refine ⟨⟨rfl, rfl, rfl⟩, ?_⟩)) ⟨by rw [← hnum, hn2]; rfl, by rw [← hnum, hn2]; rfl, rfl⟩
    · rw [hf2] at hd2
      rw [hd2]
      conv => arg 4; cbv
      exact AKp.againL _ (by rw [hfr]; exact Nat.le_of_ble_eq_true rfl) (by repeat (first | exact True.intro | refine ⟨⟨rfl, rfl⟩, ?_⟩)) (by repeat (first | exact True.intro | refine ⟨⟨rfl, rfl, rfl⟩, ?_⟩)) (hJ e2.depth [(0, .d (.iface t2 x2))] _ (by rw [← hdep]; exact Nat.lt_succ_self _) ⟨e2, hn2, rfl, by rw [← hnum]; rfl, by rw [hf2], rfl⟩)

theorem H_type (T : Nat) (fact : ∀ (a : Addr) (w : World), (ReflectliteValue.methodAny (ReflectliteValue.valueError "reflectlite.Value.Type" 0) (fun t _ _ _ => ReflectliteType.toType t) #[.agg #[.pointer (some ⟨4, T, none⟩), .pointer (some a), .int .u64 150]]).run Tryd.prog w
    = .ok (.iface 78 (.agg #[.pointer (some ⟨4, T, none⟩)])) w) (n i off k : Nat) (R : Rd) (ι : Io) (vs : List Value) (w : World)
    (hl : [rv3 4 T (.ptr n i off k) 150].length = vs.length) (hr : ∀ (j : Nat) (x : AV) (v : Value), [rv3 4 T (.ptr n i off k) 150][j]? = some x → vs[j]? = some v → RepV R ι x v) :
    ∃ v, (ReflectliteValue.methodAny (ReflectliteValue.valueError "reflectlite.Value.Type" 0) (fun t _ _ _ => ReflectliteType.toType t) vs.toArray).run Tryd.prog w = .ok v w ∧ RepV R ι (.d (.iface 78 (.agg [.s (.tok 4 T)]))) v := by
  obtain ⟨v, rfl, hv⟩ := one_arg hl hr
  obtain ⟨b, c, l, hi, rfl⟩ := rv3_ptr hv
  exact ⟨_, fact _ w, rtype_rep T⟩

theorem H_kind (t n : Nat) (fact : ∀ w : World, ((ReflectliteType.abiMethod fun t => (fun a : Nat => Value.int IntKind.u8 (a : Int)) <$> Rtype.kind t) #[.pointer (some ⟨4, t, none⟩)]).run Tryd.prog w = .ok (.int .u8 n) w) (hn : (Sc.int .u8 n).ok)
    (R : Rd) (ι : Io) (rv : Value) (vs : List Value) (w : World) (hrv : RepD R (.agg [.s (.tok 4 t)]) rv) (hl : ([] : List AV).length = vs.length) (hr : ∀ (i : Nat) (x : AV) (v : Value), ([] : List AV)[i]? = some x → vs[i]? = some v → RepV R ι x v) :
    ∃ receiver v, (Go.method (Tryd.prog.types.size + Made.depth) 78 rv "Kind").run Tryd.prog w = .ok (62, receiver) w ∧
      ((ReflectliteType.abiMethod fun t => (do pure (.int .u8 (← Rtype.kind t)))) (receiver :: vs).toArray).run Tryd.prog w = .ok v w ∧ RepV R ι (.d (.s (.int .u8 n))) v := by
  obtain rfl : vs = [] := List.eq_nil_of_length_eq_zero (by simpa using hl.symm)
  obtain rfl := rtype_inv hrv
  exact ⟨_, _, methodKind _ w, fact w, .d _ _ (.s (.int .u8 n) hn)⟩

theorem H_elem (T t : Nat) (fact : ∀ w : World, (ReflectliteType.method ReflectliteType.elem #[.agg #[.pointer (some ⟨4, T, none⟩)]]).run Tryd.prog w = .ok (.iface 78 (.agg #[.pointer (some ⟨4, t, none⟩)])) w)
    (R : Rd) (ι : Io) (rv : Value) (vs : List Value) (w : World) (hrv : RepD R (.agg [.s (.tok 4 T)]) rv) (hl : ([] : List AV).length = vs.length) (hr : ∀ (i : Nat) (x : AV) (v : Value), ([] : List AV)[i]? = some x → vs[i]? = some v → RepV R ι x v) :
    ∃ receiver v, (Go.method (Tryd.prog.types.size + Made.depth) 78 rv "Elem").run Tryd.prog w = .ok (72, receiver) w ∧
      (ReflectliteType.method ReflectliteType.elem (receiver :: vs).toArray).run Tryd.prog w = .ok v w ∧ RepV R ι (.d (.iface 78 (.agg [.s (.tok 4 t)]))) v := by
  obtain rfl : vs = [] := List.eq_nil_of_length_eq_zero (by simpa using hl.symm)
  obtain rfl := rtype_inv hrv
  exact ⟨_, _, methodElem _ w, fact w, rtype_rep t⟩

theorem H_implements (t : Nat) (fact : ∀ w : World, (ReflectliteType.relation "Implements" ReflectliteType.implements_ #[.agg #[.pointer (some ⟨4, t, none⟩)], .iface 78 (.agg #[.pointer (some ⟨4, 25, none⟩)])]).run Tryd.prog w = .ok (.bool true) w)
    (R : Rd) (ι : Io) (rv : Value) (vs : List Value) (w : World) (hrv : RepD R (.agg [.s (.tok 4 t)]) rv)
    (hl : [AV.d (.iface 78 (.agg [.s (.tok 4 25)]))].length = vs.length) (hr : ∀ (i : Nat) (x : AV) (v : Value), [AV.d (.iface 78 (.agg [.s (.tok 4 25)]))][i]? = some x → vs[i]? = some v → RepV R ι x v) :
    ∃ receiver v, (Go.method (Tryd.prog.types.size + Made.depth) 78 rv "Implements").run Tryd.prog w = .ok (73, receiver) w ∧
      (ReflectliteType.relation "Implements" ReflectliteType.implements_ (receiver :: vs).toArray).run Tryd.prog w = .ok v w ∧ RepV R ι (.d (.s (.bool true))) v := by
  obtain ⟨v, rfl, hv⟩ := one_arg hl hr
  obtain rfl := rtype_inv2 hv
  obtain rfl := rtype_inv hrv
  exact ⟨_, _, methodImplements _ w, fact w, .d _ _ (.s (.bool true) trivial)⟩

theorem AsNum_spec (e : ErrF) (old : Int) :
    ASpec Tryd.prog 22 [.d e.dat, .iface 54 (.ptr 0 0 0 1)] [(0, .cs 28 [.d (.s (.int .i64 old))])] 1
      (fun x h' fr' => x = .d (.s (.bool e.num?.isSome)) ∧ h' = [(0, .cs 28 [.d (.s (.int .i64 (e.num?.getD old)))])] ∧ fr' = 1) := by
  refine ASpec.enter Tryd.func22 (by kernel_rfl) rfl (Nat.le_of_ble_eq_true rfl) ?_
  intro cx hnt hfr
  obtain ⟨F, hF⟩ := real_ex
  rcases e.form with ⟨hn2, hf2⟩ | ⟨hn2, t2, x2, hf2⟩
  · rw [hf2, hn2]
    refine AK.run hF tabOK hnt ?_
    conv => arg 4; cbv
    exact AKp.doneN (h' := [(0, .cs 28 [.d (.s (.int .i64 old))])]) tabOK hfr (by rfl) (by repeat (first | exact True.intro | refine ⟨⟨rfl, rfl, rfl⟩, ?_⟩)) ⟨rfl, rfl, rfl⟩
  have sp := asNum_spec e hn2 old
  rw [hf2] at sp ⊢
  generalize e.num?.isSome = zb at *
  generalize e.num?.getD old = zn at *
  refine AK.run hF tabOK hnt ?_
  conv => arg 4; cbv
  refine AKp.valueOf hF tabOK hnt (x := .ptr 0 0 0 1) 1 Tryd.func27 (by kernel_rfl) (by kernel_rfl) (by kernel_rfl) (by kernel_rfl) rfl rfl rfl rfl (by rfl) (iface_formP 54 0 0 0 1) rfl (fun R ι u w hu => by cases hu; exact valueOfE _ w) (Sc.ok_of rfl) ?_
  conv => arg 4; cbv
  refine AKp.ext0 hF tabOK hnt Tryd.func28 (by kernel_rfl) (by kernel_rfl) (by kernel_rfl) (by kernel_rfl) rfl rfl rfl rfl rfl (H_type 54 typeE 1 0 0 1) ?_
  conv => arg 4; cbv
  refine AKp.inv0 hF tabOK hnt Tryd.func62 (by kernel_rfl) (by kernel_rfl) (by kernel_rfl) (by kernel_rfl) rfl rfl rfl rfl rfl rfl (H_kind 54 22 kindE (Sc.ok_of rfl)) ?_
  conv => arg 4; cbv
  rw [show F .eqI (Int.ofNat 22) 22 = true by rw [hF]; rfl, show F .not true = false by rw [hF]; rfl]
  conv => arg 4; cbv
  refine AKp.viaPtr hF tabOK hnt (.d (.s (.bool false))) Tryd.func29 (by kernel_rfl) (by kernel_rfl) (by kernel_rfl) (by kernel_rfl) rfl rfl rfl rfl rfl rfl (fun a p w h => ⟨_, isNilE a p w h, fun R ι hp => .d _ _ (.s (.bool false) trivial)⟩) ?_
  conv => arg 4; cbv
  refine AKp.inv0 hF tabOK hnt Tryd.func72 (by kernel_rfl) (by kernel_rfl) (by kernel_rfl) (by kernel_rfl) rfl rfl rfl rfl rfl rfl (H_elem 54 28 elemE) ?_
  conv => arg 4; cbv
  refine AKp.inv0 hF tabOK hnt Tryd.func62 (by kernel_rfl) (by kernel_rfl) (by kernel_rfl) (by kernel_rfl) rfl rfl rfl rfl rfl rfl (H_kind 28 2 kind28 (Sc.ok_of rfl)) ?_
  conv => arg 4; cbv
  rw [show F .eqI (Int.ofNat 2) 20 = false by rw [hF]; rfl, show F .not false = true by rw [hF]; rfl]
  conv => arg 4; cbv
  refine AKp.loadG hF tabOK hnt (v := .iface 78 (.agg #[.pointer (some ⟨4, 25, none⟩)])) (z := .d (.iface 78 (.agg [.s (.tok 4 25)]))) rfl rfl rfl ⟨rfl, rfl⟩ (fun w hw => ?_) (fun R ι => rtype_rep 25) ?_
  · simp [Instr.loadAt, Instr.sureAddr, loadVar, isAgg, underlying, Tryd.underlying66, hw, Result.andThen]
  conv => arg 4; cbv
  refine AKp.inv0 hF tabOK hnt Tryd.func73 (by kernel_rfl) (by kernel_rfl) (by kernel_rfl) (by kernel_rfl) rfl rfl rfl rfl rfl rfl (H_implements 28 implements28) ?_
  conv => arg 4; cbv
  rw [show F .not true = false by rw [hF]; rfl]
  conv => arg 4; cbv
  refine AKp.call1 hF tabOK hnt sp rfl rfl rfl rfl rfl rfl rfl rfl rfl (by repeat (first | exact True.intro | refine ⟨⟨rfl, rfl, rfl⟩, ?_⟩)) ?_
  rintro x h' fr' ⟨rfl, rfl, rfl⟩
  conv => arg 4; cbv
  exact AKp.doneN (h' := [(0, .cs 28 [.d (.s (.int .i64 zn))])]) tabOK hfr (by rfl) (by repeat (first | exact True.intro | refine ⟨⟨rfl, rfl, rfl⟩, ?_⟩)) ⟨rfl, rfl, rfl⟩
end Go.Proofs.YtfblglnfplpagaaDoor
