/- The library of this claim and its walks, part 38, joined out of smaller texts. No statement stands in it. -/
import Derived.Test.YtljidkmppeaecaaDoorUaM25
import Derived.Test.YtljidkmppeaecaaDoorUaM27
import Derived.Test.YtljidkmppeaecaaDoorUaM31
import Derived.Test.YtljidkmppeaecaaDoorUaM36
import Derived.Test.YtljidkmppeaecaaDoorUaM37
import Derived.Stop.Asserts
/- errors.As, at the two targets. -/
namespace Go.Proofs.YtljidkmppeaecaaDoor
open Go Go.Proofs Go.Ua Go.Extern
set_option linter.unusedVariables false

/-- The errors of this program. -/
inductive ErrF where
  | nil
  | num (n : Int)
  | flt (line : Int) (what : List UInt8) (err : ErrF)

def ErrF.dat : ErrF → Dat
  | .nil => .s .if0
  | .num n => .iface 45 (.s (.int .i64 n))
  | .flt l w e => .iface 68 (.agg [.s (.int .i64 l), .s (.str w), e.dat])

def ErrF.depth : ErrF → Nat
  | .flt _ _ e => e.depth + 1
  | _ => 0

def ErrF.num? : ErrF → Option Int
  | .num n => some n
  | .flt _ _ e => e.num?
  | _ => none

theorem Unwrap_spec (l : Int) (w : List UInt8) (e : Dat) : ESpec Tryd.prog 106 [.d (.agg [.s (.int .i64 l), .s (.str w), e])] (fun x => x = .d e) := by
  refine ESpec.enter Tryd.func106 (by kernel_rfl) rfl (Nat.le_of_ble_eq_true rfl) fun _ cx hnt hfr => ?_
  obtain ⟨F, hF⟩ := real_ex
  refine AK.run hF tabOK hnt ?_
  conv => arg 4; cbv
  exact AKp.doneE tabOK hfr (by rfl) (by rfl)

theorem no28_82 (v : Value) (w : World) : (Instr.typeAssert (.iface 45 v) 28 117 true).run Tryd.prog w = .ok (.tuple #[.nilIface, .bool false]) w := run_typeAssert_lacksB Tryd.underlying117 (by kernel_rfl) (by kernel_rfl) v 28 w
theorem no28_85 (v : Value) (w : World) : (Instr.typeAssert (.iface 45 v) 28 120 true).run Tryd.prog w = .ok (.tuple #[.nilIface, .bool false]) w := run_typeAssert_lacksB Tryd.underlying120 (by kernel_rfl) (by kernel_rfl) v 28 w
theorem no28_86 (v : Value) (w : World) : (Instr.typeAssert (.iface 45 v) 28 122 true).run Tryd.prog w = .ok (.tuple #[.nilIface, .bool false]) w := run_typeAssert_lacksB Tryd.underlying122 (by kernel_rfl) (by kernel_rfl) v 28 w
theorem no27_82 (v : Value) (w : World) : (Instr.typeAssert (.iface 68 v) 28 117 true).run Tryd.prog w = .ok (.tuple #[.nilIface, .bool false]) w := run_typeAssert_lacksB Tryd.underlying117 (by kernel_rfl) (by kernel_rfl) v 28 w
theorem is27_85 (v : Value) (w : World) : (Instr.typeAssert (.iface 68 v) 28 120 true).run Tryd.prog w = .ok (.tuple #[.iface 68 v, .bool true]) w := run_typeAssert_hasB Tryd.underlying120 (by kernel_rfl) v 28 w

theorem rtype_rep {R : Rd} {ι : Io} (t : Nat) : RepV R ι (.d (.iface 112 (.agg [.s (.tok 4 t)]))) (.iface 112 (.agg #[.pointer (some ⟨4, t, none⟩)])) := by
  refine .d _ _ (.iface _ _ _ (.agg [.s (.tok 4 t)] [.pointer (some ⟨4, t, none⟩)] rfl (by intro v hv; simp at hv; subst hv; rfl) fun i c v hc hv => ?_))
  match i, hc, hv with
  | 0, hc, hv => cases hc; cases hv; exact .s (.tok 4 t) trivial
  | i + 1, hc, hv => simp at hc

theorem rtype_inv {R : Rd} {t : Nat} {v : Value} (h : RepD R (.agg [.s (.tok 4 t)]) v) : v = .agg #[.pointer (some ⟨4, t, none⟩)] := by
  cases h with
  | agg _ vs hl h1 hr =>
    match vs, hl with
    | [x], _ =>
      have := hr 0 _ _ rfl rfl
      cases this
      rfl

theorem rtype_inv2 {R : Rd} {ι : Io} {t : Nat} {v : Value} (h : RepV R ι (.d (.iface 112 (.agg [.s (.tok 4 t)]))) v) : v = .iface 112 (.agg #[.pointer (some ⟨4, t, none⟩)]) := by
  cases h with
  | d _ _ h =>
    cases h with
    | iface _ _ u hu => rw [rtype_inv hu]

theorem one_arg {α : Type} {x : α} {vs : List Value} {p : α → Value → Prop} (hl : [x].length = vs.length) (hr : ∀ (i : Nat) (y : α) (v : Value), [x][i]? = some y → vs[i]? = some v → p y v) : ∃ v, vs = [v] ∧ p x v := by
  match vs, hl with
  | [v], _ => exact ⟨v, rfl, hr 0 _ _ rfl rfl⟩

theorem H_typeOf (t : Nat) (d : Dat) (fact : ∀ (v : Value) (w : World), (ReflectliteType.typeOf #[.iface t v]).run Tryd.prog w = .ok (.iface 112 (.agg #[.pointer (some ⟨4, t, none⟩)])) w) (R : Rd) (ι : Io) (vs : List Value) (w : World)
    (hl : [AV.d (.iface t d)].length = vs.length) (hr : ∀ (i : Nat) (x : AV) (v : Value), [AV.d (.iface t d)][i]? = some x → vs[i]? = some v → RepV R ι x v) :
    ∃ v, (ReflectliteType.typeOf vs.toArray).run Tryd.prog w = .ok v w ∧ RepV R ι (.d (.iface 112 (.agg [.s (.tok 4 t)]))) v := by
  obtain ⟨v, rfl, hv⟩ := one_arg hl hr
  cases hv with
  | d _ _ h =>
    cases h with
    | iface _ _ u hu => exact ⟨_, fact u w, rtype_rep t⟩

theorem H_assign (t T : Nat) (b : Bool) (fact : ∀ w : World, (ReflectliteType.relation "AssignableTo" ReflectliteType.assignableTo #[.agg #[.pointer (some ⟨4, t, none⟩)], .iface 112 (.agg #[.pointer (some ⟨4, T, none⟩)])]).run Tryd.prog w = .ok (.bool b) w)
    (R : Rd) (ι : Io) (rv : Value) (vs : List Value) (w : World) (hrv : RepD R (.agg [.s (.tok 4 t)]) rv)
    (hl : [AV.d (.iface 112 (.agg [.s (.tok 4 T)]))].length = vs.length) (hr : ∀ (i : Nat) (x : AV) (v : Value), [AV.d (.iface 112 (.agg [.s (.tok 4 T)]))][i]? = some x → vs[i]? = some v → RepV R ι x v) :
    ∃ receiver v, (Go.method (Tryd.prog.types.size + Made.depth) 112 rv "AssignableTo").run Tryd.prog w = .ok (111, receiver) w ∧
      (ReflectliteType.relation "AssignableTo" ReflectliteType.assignableTo (receiver :: vs).toArray).run Tryd.prog w = .ok v w ∧ RepV R ι (.d (.s (.bool b))) v := by
  obtain ⟨v, rfl, hv⟩ := one_arg hl hr
  obtain rfl := rtype_inv2 hv
  obtain rfl := rtype_inv hrv
  exact ⟨_, _, methodAssignableTo _ w, fact w, .d _ _ (.s (.bool b) trivial)⟩

theorem iface_form (t : Nat) (d : Dat) (R : Rd) (ι : Io) (v : Value) (h : RepV R ι (.d (.iface t d)) v) : ∃ u, v = .iface t u ∧ RepV R ι (.d d) u := by
  cases h with
  | d _ _ h =>
    cases h with
    | iface _ _ u hu => exact ⟨u, rfl, .d _ _ hu⟩

theorem iface_formP (t n i o k : Nat) (R : Rd) (ι : Io) (v : Value) (h : RepV R ι (.iface t (.ptr n i o k)) v) : ∃ u, v = .iface t u ∧ RepV R ι (.ptr n i o k) u := by
  cases h with
  | iface _ _ u hu => exact ⟨u, rfl, hu⟩

theorem ErrF.form : ∀ e : ErrF, (e = .nil ∧ e.dat = .s .if0) ∨ (e ≠ .nil ∧ ∃ t x, e.dat = .iface t x)
  | .nil => .inl ⟨rfl, rfl⟩
  | .num n => .inr ⟨by simp, _, _, rfl⟩
  | .flt l w e => .inr ⟨by simp, _, _, rfl⟩

theorem asNum_spec (e : ErrF) (hne : e ≠ .nil) (old : Int) :
    ASpec Tryd.prog 46 [.d e.dat, .iface 66 (.ptr 0 0 0 1), rv3 4 66 (.ptr 1 0 0 1) 150, .d (.iface 112 (.agg [.s (.tok 4 45)]))] [(1, .cs 66 [.ptr 0 0 0 1]), (0, .cs 45 [.d (.s (.int .i64 old))])] 2
      (fun x h' fr' => x = .d (.s (.bool e.num?.isSome)) ∧ h' = [(1, .cs 66 [.ptr 0 0 0 1]), (0, .cs 45 [.d (.s (.int .i64 (e.num?.getD old)))])] ∧ fr' = 2) := by
  obtain ⟨e0, he0⟩ : ∃ e0, e0 = e := ⟨_, rfl⟩
  refine ASpec.enter Tryd.func46 (by kernel_rfl) rfl (Nat.le_of_ble_eq_true rfl) ?_
  intro cx hnt hfr
  obtain ⟨F, hF⟩ := real_ex
  obtain ⟨ed, hed⟩ : ∃ d, d = e.dat := ⟨_, rfl⟩
  rw [← hed]
  refine AK.run hF tabOK hnt ?_
  conv => arg 4; cbv
  refine AKp.enterLoop 16 ?_
  conv => arg 7; cbv
  refine AKl.invL hF tabOK hnt (by rw [hfr]; exact Nat.le_of_ble_eq_true rfl) (fun n vs hs => ∃ e1 : ErrF, e1 ≠ .nil ∧ e1.depth = n ∧ e1.num? = e.num? ∧ vs = [(0, .d e1.dat)] ∧
      hs = [(2, .cs 86 [.d (.s (.tok 4 66)), .ptr 1 0 0 1, .d (.s (.int .u64 150))]), (1, .cs 66 [.ptr 0 0 0 1]), (0, .cs 45 [.d (.s (.int .i64 old))])]) e.depth
    ⟨e, hne, rfl, rfl, by rw [← hed], rfl⟩ (by repeat (first | exact True.intro | refine ⟨⟨rfl, rfl⟩, ?_⟩)) (by repeat (first | exact True.intro | refine ⟨⟨rfl, rfl, rfl⟩, ?_⟩)) ?_
  rintro J n vs hs hJ ⟨e1, hne1, hdep, hnum, rfl, rfl⟩
  cases e1 with
  | nil => exact absurd rfl hne1
  | num m =>
    conv => arg 4; cbv
    refine AKp.ext0 hF tabOK hnt Tryd.func57 (by kernel_rfl) (by kernel_rfl) (by kernel_rfl) (by kernel_rfl) rfl rfl rfl rfl rfl (H_typeOf 45 (.s (.int .i64 m)) typeOf28) ?_
    conv => arg 4; cbv
    refine AKp.inv0 hF tabOK hnt Tryd.func111 (by kernel_rfl) (by kernel_rfl) (by kernel_rfl) (by kernel_rfl) rfl rfl rfl rfl rfl rfl (H_assign 45 45 true fun w => (assignable w).1) ?_
    conv => arg 4; cbv
    refine AKp.viaPtr hF tabOK hnt (rv3 4 45 (.ptr 0 0 0 1) 386) Tryd.func58 (by kernel_rfl) (by kernel_rfl) (by kernel_rfl) (by kernel_rfl) rfl rfl rfl rfl rfl rfl (fun a p w h => ⟨_, elemVE a p w h, fun R ι hp => ?_⟩) ?_
    · refine .agg _ [.pointer (some ⟨4, 45, none⟩), .pointer (some p), .int .u64 386] rfl (by intro v hv; simp at hv; rcases hv with rfl | rfl | rfl <;> rfl) fun i c v hc hv => ?_
      match i, hc, hv with
      | 0, hc, hv => cases hc; cases hv; exact .d _ _ (.s (.tok 4 45) trivial)
      | 1, hc, hv => cases hc; cases hv; exact hp
      | 2, hc, hv => cases hc; cases hv; exact .d _ _ (.s (.int .u64 386) (Sc.ok_of rfl))
      | i + 3, hc, hv => simp at hc
    conv => arg 4; cbv
    refine AKp.valueOf hF tabOK hnt (x := .d (.s (.int .i64 m))) 1 Tryd.func43 (by kernel_rfl) (by kernel_rfl) (by kernel_rfl) (by kernel_rfl) rfl rfl rfl rfl rfl (iface_form 45 _) rfl (fun R ι u w hu => by obtain rfl := rep_s hu; exact valueOfNum m w) (Sc.ok_of rfl) ?_
    conv => arg 4; cbv
    refine AKp.setV hF tabOK hnt Tryd.func59 (by kernel_rfl) (by kernel_rfl) (by kernel_rfl) (by kernel_rfl) rfl rfl rfl rfl rfl rfl (by decide) rfl setE ?_
    conv => arg 4; cbv
    exact AKp.doneN (h' := [(1, .cs 66 [.ptr 0 0 0 1]), (0, .cs 45 [.d (.s (.int .i64 m))])]) tabOK hfr (by rfl) (by repeat (first | exact True.intro | refine ⟨⟨rfl, rfl, rfl⟩, ?_⟩)) ⟨by rw [← hnum]; rfl, by rw [← hnum]; rfl, rfl⟩
  | flt l w e2 =>
    have sp := Unwrap_spec l w e2.dat
    obtain ⟨d2, hd2⟩ : ∃ d, d = e2.dat := ⟨_, rfl⟩
    have hfd : (ErrF.flt l w e2).dat = .iface 68 (.agg [.s (.int .i64 l), .s (.str w), d2]) := by rw [hd2]; rfl
    rw [← hd2] at sp
    rw [hfd]
    conv => arg 4; cbv
    refine AKp.ext0 hF tabOK hnt Tryd.func57 (by kernel_rfl) (by kernel_rfl) (by kernel_rfl) (by kernel_rfl) rfl rfl rfl rfl rfl (H_typeOf 68 _ typeOf27) ?_
    conv => arg 4; cbv
    refine AKp.inv0 hF tabOK hnt Tryd.func111 (by kernel_rfl) (by kernel_rfl) (by kernel_rfl) (by kernel_rfl) rfl rfl rfl rfl rfl rfl (H_assign 68 45 false fun w => (assignable w).2.1) ?_
    conv => arg 4; cbv
    refine AKp.tassert hF tabOK hnt false rfl rfl rfl rfl (fun R rv w h => no27_82 rv w) ?_
    conv => arg 4; cbv
    refine AKp.tassert hF tabOK hnt true rfl rfl rfl rfl (fun R rv w h => is27_85 rv w) ?_
    conv => arg 4; cbv
    refine AKp.callI hF tabOK hnt sp rfl rfl rfl rfl rfl rfl (fun R rv w h => ?_) ?_
    · cases h with
      | agg _ vs hl h1 hr =>
        match vs, hl with
        | [x, y, z], _ => exact methodUnwrap x y z w
    rintro _ rfl
    conv => arg 4; cbv
    rcases e2.form with ⟨hn2, hf2⟩ | ⟨hn2, t2, x2, hf2⟩
    · rw [hd2, hf2]
      conv => arg 4; cbv
      exact AKp.doneN (h' := [(1, .cs 66 [.ptr 0 0 0 1]), (0, .cs 45 [.d (.s (.int .i64 old))])]) tabOK hfr (by rfl) (by repeat (first | exact True.intro | refine ⟨⟨rfl, rfl, rfl⟩, ?_⟩)) ⟨by rw [← hnum, hn2]; rfl, by rw [← hnum, hn2]; rfl, rfl⟩
    · rw [hf2] at hd2
      rw [hd2]
      conv => arg 4; cbv
      exact AKp.againL _ (by rw [hfr]; exact Nat.le_of_ble_eq_true rfl) (by repeat (first | exact True.intro | refine ⟨⟨rfl, rfl⟩, ?_⟩)) (by repeat (first | exact True.intro | refine ⟨⟨rfl, rfl, rfl⟩, ?_⟩)) (hJ e2.depth [(0, .d (.iface t2 x2))] _ (by rw [← hdep]; exact Nat.lt_succ_self _) ⟨e2, hn2, rfl, by rw [← hnum]; rfl, by rw [hf2], rfl⟩)

theorem H_type (T : Nat) (fact : ∀ (a : Addr) (w : World), (ReflectliteValue.methodAny (ReflectliteValue.valueError "reflectlite.Value.Type" 0) (fun t _ _ _ => ReflectliteType.toType t) #[.agg #[.pointer (some ⟨4, T, none⟩), .pointer (some a), .int .u64 150]]).run Tryd.prog w
    = .ok (.iface 112 (.agg #[.pointer (some ⟨4, T, none⟩)])) w) (n i off k : Nat) (R : Rd) (ι : Io) (vs : List Value) (w : World)
    (hl : [rv3 4 T (.ptr n i off k) 150].length = vs.length) (hr : ∀ (j : Nat) (x : AV) (v : Value), [rv3 4 T (.ptr n i off k) 150][j]? = some x → vs[j]? = some v → RepV R ι x v) :
    ∃ v, (ReflectliteValue.methodAny (ReflectliteValue.valueError "reflectlite.Value.Type" 0) (fun t _ _ _ => ReflectliteType.toType t) vs.toArray).run Tryd.prog w = .ok v w ∧ RepV R ι (.d (.iface 112 (.agg [.s (.tok 4 T)]))) v := by
  obtain ⟨v, rfl, hv⟩ := one_arg hl hr
  obtain ⟨b, c, l, hi, rfl⟩ := rv3_ptr hv
  exact ⟨_, fact _ w, rtype_rep T⟩

theorem H_kind (t n : Nat) (fact : ∀ w : World, ((ReflectliteType.abiMethod fun t => (fun a : Nat => Value.int IntKind.u8 (a : Int)) <$> Rtype.kind t) #[.pointer (some ⟨4, t, none⟩)]).run Tryd.prog w = .ok (.int .u8 n) w) (hn : (Sc.int .u8 n).ok)
    (R : Rd) (ι : Io) (rv : Value) (vs : List Value) (w : World) (hrv : RepD R (.agg [.s (.tok 4 t)]) rv) (hl : ([] : List AV).length = vs.length) (hr : ∀ (i : Nat) (x : AV) (v : Value), ([] : List AV)[i]? = some x → vs[i]? = some v → RepV R ι x v) :
    ∃ receiver v, (Go.method (Tryd.prog.types.size + Made.depth) 112 rv "Kind").run Tryd.prog w = .ok (101, receiver) w ∧
      ((ReflectliteType.abiMethod fun t => (do pure (.int .u8 (← Rtype.kind t)))) (receiver :: vs).toArray).run Tryd.prog w = .ok v w ∧ RepV R ι (.d (.s (.int .u8 n))) v := by
  obtain rfl : vs = [] := List.eq_nil_of_length_eq_zero (by simpa using hl.symm)
  obtain rfl := rtype_inv hrv
  exact ⟨_, _, methodKind _ w, fact w, .d _ _ (.s (.int .u8 n) hn)⟩

theorem H_elem (T t : Nat) (fact : ∀ w : World, (ReflectliteType.method ReflectliteType.elem #[.agg #[.pointer (some ⟨4, T, none⟩)]]).run Tryd.prog w = .ok (.iface 112 (.agg #[.pointer (some ⟨4, t, none⟩)])) w)
    (R : Rd) (ι : Io) (rv : Value) (vs : List Value) (w : World) (hrv : RepD R (.agg [.s (.tok 4 T)]) rv) (hl : ([] : List AV).length = vs.length) (hr : ∀ (i : Nat) (x : AV) (v : Value), ([] : List AV)[i]? = some x → vs[i]? = some v → RepV R ι x v) :
    ∃ receiver v, (Go.method (Tryd.prog.types.size + Made.depth) 112 rv "Elem").run Tryd.prog w = .ok (113, receiver) w ∧
      (ReflectliteType.method ReflectliteType.elem (receiver :: vs).toArray).run Tryd.prog w = .ok v w ∧ RepV R ι (.d (.iface 112 (.agg [.s (.tok 4 t)]))) v := by
  obtain rfl : vs = [] := List.eq_nil_of_length_eq_zero (by simpa using hl.symm)
  obtain rfl := rtype_inv hrv
  exact ⟨_, _, methodElem _ w, fact w, rtype_rep t⟩

theorem H_implements (t : Nat) (fact : ∀ w : World, (ReflectliteType.relation "Implements" ReflectliteType.implements_ #[.agg #[.pointer (some ⟨4, t, none⟩)], .iface 112 (.agg #[.pointer (some ⟨4, 28, none⟩)])]).run Tryd.prog w = .ok (.bool true) w)
    (R : Rd) (ι : Io) (rv : Value) (vs : List Value) (w : World) (hrv : RepD R (.agg [.s (.tok 4 t)]) rv)
    (hl : [AV.d (.iface 112 (.agg [.s (.tok 4 28)]))].length = vs.length) (hr : ∀ (i : Nat) (x : AV) (v : Value), [AV.d (.iface 112 (.agg [.s (.tok 4 28)]))][i]? = some x → vs[i]? = some v → RepV R ι x v) :
    ∃ receiver v, (Go.method (Tryd.prog.types.size + Made.depth) 112 rv "Implements").run Tryd.prog w = .ok (114, receiver) w ∧
      (ReflectliteType.relation "Implements" ReflectliteType.implements_ (receiver :: vs).toArray).run Tryd.prog w = .ok v w ∧ RepV R ι (.d (.s (.bool true))) v := by
  obtain ⟨v, rfl, hv⟩ := one_arg hl hr
  obtain rfl := rtype_inv2 hv
  obtain rfl := rtype_inv hrv
  exact ⟨_, _, methodImplements _ w, fact w, .d _ _ (.s (.bool true) trivial)⟩

theorem AsNum_spec (e : ErrF) (old : Int) :
    ASpec Tryd.prog 26 [.d e.dat, .iface 66 (.ptr 0 0 0 1)] [(0, .cs 45 [.d (.s (.int .i64 old))])] 1
      (fun x h' fr' => x = .d (.s (.bool e.num?.isSome)) ∧ h' = [(0, .cs 45 [.d (.s (.int .i64 (e.num?.getD old)))])] ∧ fr' = 1) := by
  refine ASpec.enter Tryd.func26 (by kernel_rfl) rfl (Nat.le_of_ble_eq_true rfl) ?_
  intro cx hnt hfr
  obtain ⟨F, hF⟩ := real_ex
  rcases e.form with ⟨hn2, hf2⟩ | ⟨hn2, t2, x2, hf2⟩
  · rw [hf2, hn2]
    refine AK.run hF tabOK hnt ?_
    conv => arg 4; cbv
    exact AKp.doneN (h' := [(0, .cs 45 [.d (.s (.int .i64 old))])]) tabOK hfr (by rfl) (by repeat (first | exact True.intro | refine ⟨⟨rfl, rfl, rfl⟩, ?_⟩)) ⟨rfl, rfl, rfl⟩
  have sp := asNum_spec e hn2 old
  rw [hf2] at sp ⊢
  generalize e.num?.isSome = zb at *
  generalize e.num?.getD old = zn at *
  refine AK.run hF tabOK hnt ?_
  conv => arg 4; cbv
  refine AKp.valueOf hF tabOK hnt (x := .ptr 0 0 0 1) 1 Tryd.func43 (by kernel_rfl) (by kernel_rfl) (by kernel_rfl) (by kernel_rfl) rfl rfl rfl rfl (by rfl) (iface_formP 66 0 0 0 1) rfl (fun R ι u w hu => by cases hu; exact valueOfE _ w) (Sc.ok_of rfl) ?_
  conv => arg 4; cbv
  refine AKp.ext0 hF tabOK hnt Tryd.func44 (by kernel_rfl) (by kernel_rfl) (by kernel_rfl) (by kernel_rfl) rfl rfl rfl rfl rfl (H_type 66 typeE 1 0 0 1) ?_
  conv => arg 4; cbv
  refine AKp.inv0 hF tabOK hnt Tryd.func101 (by kernel_rfl) (by kernel_rfl) (by kernel_rfl) (by kernel_rfl) rfl rfl rfl rfl rfl rfl (H_kind 66 22 kindE (Sc.ok_of rfl)) ?_
  conv => arg 4; cbv
  rw [show F .eqI (Int.ofNat 22) 22 = true by rw [hF]; rfl, show F .not true = false by rw [hF]; rfl]
  conv => arg 4; cbv
  refine AKp.viaPtr hF tabOK hnt (.d (.s (.bool false))) Tryd.func45 (by kernel_rfl) (by kernel_rfl) (by kernel_rfl) (by kernel_rfl) rfl rfl rfl rfl rfl rfl (fun a p w h => ⟨_, isNilE a p w h, fun R ι hp => .d _ _ (.s (.bool false) trivial)⟩) ?_
  conv => arg 4; cbv
  refine AKp.inv0 hF tabOK hnt Tryd.func113 (by kernel_rfl) (by kernel_rfl) (by kernel_rfl) (by kernel_rfl) rfl rfl rfl rfl rfl rfl (H_elem 66 45 elemE) ?_
  conv => arg 4; cbv
  refine AKp.inv0 hF tabOK hnt Tryd.func101 (by kernel_rfl) (by kernel_rfl) (by kernel_rfl) (by kernel_rfl) rfl rfl rfl rfl rfl rfl (H_kind 45 2 kind28 (Sc.ok_of rfl)) ?_
  conv => arg 4; cbv
  rw [show F .eqI (Int.ofNat 2) 20 = false by rw [hF]; rfl, show F .not false = true by rw [hF]; rfl]
  conv => arg 4; cbv
  refine AKp.loadG hF tabOK hnt (v := .iface 112 (.agg #[.pointer (some ⟨4, 28, none⟩)])) (z := .d (.iface 112 (.agg [.s (.tok 4 28)]))) rfl rfl rfl G_err (fun w hw => ?_) (fun R ι => rtype_rep 28) ?_
  · simp [Instr.loadAt, Instr.sureAddr, loadVar, isAgg, underlying, Tryd.underlying89, hw, Result.andThen]
  conv => arg 4; cbv
  refine AKp.inv0 hF tabOK hnt Tryd.func114 (by kernel_rfl) (by kernel_rfl) (by kernel_rfl) (by kernel_rfl) rfl rfl rfl rfl rfl rfl (H_implements 45 implements28) ?_
  conv => arg 4; cbv
  rw [show F .not true = false by rw [hF]; rfl]
  conv => arg 4; cbv
  refine AKp.call1 hF tabOK hnt sp rfl rfl rfl rfl rfl rfl rfl rfl rfl (by repeat (first | exact True.intro | refine ⟨⟨rfl, rfl, rfl⟩, ?_⟩)) ?_
  rintro x h' fr' ⟨rfl, rfl, rfl⟩
  conv => arg 4; cbv
  exact AKp.doneN (h' := [(0, .cs 45 [.d (.s (.int .i64 zn))])]) tabOK hfr (by rfl) (by repeat (first | exact True.intro | refine ⟨⟨rfl, rfl, rfl⟩, ?_⟩)) ⟨rfl, rfl, rfl⟩
end Go.Proofs.YtljidkmppeaecaaDoor

/- errors.As at a Fault. -/
namespace Go.Proofs.YtljidkmppeaecaaDoor
open Go Go.Proofs Go.Ua Go.Extern
set_option linter.unusedVariables false

def ErrF.isFlt : ErrF → Bool
  | .flt _ _ _ => true
  | _ => false

/-- The outermost Fault's cells, or what was there. -/
def ErrF.fltOr (e : ErrF) (c : List AV) : List AV := match e with
  | .flt l w e => [.d (.s (.int .i64 l)), .d (.s (.str w)), .d e.dat]
  | _ => c

theorem asFlt_spec (e : ErrF) (hne : e ≠ .nil) (c1 c2 c3 : Dat) :
    ASpec Tryd.prog 46 [.d e.dat, .iface 69 (.ptr 0 0 0 3), rv3 4 69 (.ptr 1 0 0 1) 150, .d (.iface 112 (.agg [.s (.tok 4 68)]))] [(1, .cs 69 [.ptr 0 0 0 3]), (0, .cs 68 [.d c1, .d c2, .d c3])] 2
      (fun x h' fr' => x = .d (.s (.bool e.isFlt)) ∧ h' = [(1, .cs 69 [.ptr 0 0 0 3]), (0, .cs 68 (e.fltOr [.d c1, .d c2, .d c3]))] ∧ fr' = 2) := by
  refine ASpec.enter Tryd.func46 (by kernel_rfl) rfl (Nat.le_of_ble_eq_true rfl) ?_
  intro cx hnt hfr
  obtain ⟨F, hF⟩ := real_ex
  obtain ⟨ed, hed⟩ : ∃ d, d = e.dat := ⟨_, rfl⟩
  rw [← hed]
  refine AK.run hF tabOK hnt ?_
  conv => arg 4; cbv
  refine AKp.enterLoop 16 ?_
  conv => arg 7; cbv
  refine AKl.invL hF tabOK hnt (by rw [hfr]; exact Nat.le_of_ble_eq_true rfl) (fun n vs hs => vs = [(0, .d ed)] ∧
      hs = [(2, .cs 86 [.d (.s (.tok 4 69)), .ptr 1 0 0 1, .d (.s (.int .u64 150))]), (1, .cs 69 [.ptr 0 0 0 3]), (0, .cs 68 [.d c1, .d c2, .d c3])]) 0
    ⟨rfl, rfl⟩ (by repeat (first | exact True.intro | refine ⟨⟨rfl, rfl⟩, ?_⟩)) (by repeat (first | exact True.intro | refine ⟨⟨rfl, rfl, rfl⟩, ?_⟩)) ?_
  rintro J n vs hs hJ ⟨rfl, rfl⟩
  rw [hed]
  cases e with
  | nil => exact absurd rfl hne
  | num m =>
    conv => arg 4; cbv
    refine AKp.ext0 hF tabOK hnt Tryd.func57 (by kernel_rfl) (by kernel_rfl) (by kernel_rfl) (by kernel_rfl) rfl rfl rfl rfl rfl (H_typeOf 45 (.s (.int .i64 m)) typeOf28) ?_
    conv => arg 4; cbv
    refine AKp.inv0 hF tabOK hnt Tryd.func111 (by kernel_rfl) (by kernel_rfl) (by kernel_rfl) (by kernel_rfl) rfl rfl rfl rfl rfl rfl (H_assign 45 68 false fun w => (assignable w).2.2.1) ?_
    conv => arg 4; cbv
    refine AKp.tassert hF tabOK hnt false rfl rfl rfl rfl (fun R rv w h => no28_82 rv w) ?_
    conv => arg 4; cbv
    refine AKp.tassert hF tabOK hnt false rfl rfl rfl rfl (fun R rv w h => no28_85 rv w) ?_
    conv => arg 4; cbv
    refine AKp.tassert hF tabOK hnt false rfl rfl rfl rfl (fun R rv w h => no28_86 rv w) ?_
    conv => arg 4; cbv
    exact AKp.doneN (h' := [(1, .cs 69 [.ptr 0 0 0 3]), (0, .cs 68 [.d c1, .d c2, .d c3])]) tabOK hfr (by rfl) (by repeat (first | exact True.intro | refine ⟨⟨rfl, rfl, rfl⟩, ?_⟩)) ⟨rfl, rfl, rfl⟩
  | flt l w e2 =>
    obtain ⟨d2, hd2⟩ : ∃ d, d = e2.dat := ⟨_, rfl⟩
    have hfd : (ErrF.flt l w e2).dat = .iface 68 (.agg [.s (.int .i64 l), .s (.str w), d2]) := by rw [hd2]; rfl
    rw [hfd]
    conv => arg 4; cbv
    refine AKp.ext0 hF tabOK hnt Tryd.func57 (by kernel_rfl) (by kernel_rfl) (by kernel_rfl) (by kernel_rfl) rfl rfl rfl rfl rfl (H_typeOf 68 _ typeOf27) ?_
    conv => arg 4; cbv
    refine AKp.inv0 hF tabOK hnt Tryd.func111 (by kernel_rfl) (by kernel_rfl) (by kernel_rfl) (by kernel_rfl) rfl rfl rfl rfl rfl rfl (H_assign 68 68 true fun w => (assignable w).2.2.2) ?_
    conv => arg 4; cbv
    refine AKp.viaPtr hF tabOK hnt (rv3 4 68 (.ptr 0 0 0 3) 409) Tryd.func58 (by kernel_rfl) (by kernel_rfl) (by kernel_rfl) (by kernel_rfl) rfl rfl rfl rfl rfl rfl (fun a p w h => ⟨_, elemVF a p w h, fun R ι hp => ?_⟩) ?_
    · refine .agg _ [.pointer (some ⟨4, 68, none⟩), .pointer (some p), .int .u64 409] rfl (by intro v hv; simp at hv; rcases hv with rfl | rfl | rfl <;> rfl) fun i c v hc hv => ?_
      match i, hc, hv with
      | 0, hc, hv => cases hc; cases hv; exact .d _ _ (.s (.tok 4 68) trivial)
      | 1, hc, hv => cases hc; cases hv; exact hp
      | 2, hc, hv => cases hc; cases hv; exact .d _ _ (.s (.int .u64 409) (Sc.ok_of rfl))
      | i + 3, hc, hv => simp at hc
    conv => arg 4; cbv
    refine AKp.valueOf hF tabOK hnt (x := .d (.agg [.s (.int .i64 l), .s (.str w), d2])) 3 Tryd.func43 (by kernel_rfl) (by kernel_rfl) (by kernel_rfl) (by kernel_rfl) rfl rfl rfl rfl (by rfl) (iface_form 68 _) rfl (fun R ι u w hu => by
      cases hu with
      | d _ _ hu =>
        cases hu with
        | agg _ vs hl h1 hr =>
          match vs, hl with
          | [x, y, z], _ => exact valueOfFlt x y z w) (Sc.ok_of rfl) ?_
    conv => arg 4; cbv
    refine AKp.setV hF tabOK hnt Tryd.func59 (by kernel_rfl) (by kernel_rfl) (by kernel_rfl) (by kernel_rfl) rfl rfl rfl rfl rfl rfl (by decide) rfl setF ?_
    conv => arg 4; cbv
    exact AKp.doneN (h' := [(1, .cs 69 [.ptr 0 0 0 3]), (0, .cs 68 [.d (.s (.int .i64 l)), .d (.s (.str w)), .d d2])]) tabOK hfr (by rfl) (by repeat (first | exact True.intro | refine ⟨⟨rfl, rfl, rfl⟩, ?_⟩)) ⟨rfl, by rw [hd2]; rfl, rfl⟩

theorem AsFlt_spec (e : ErrF) (c1 c2 c3 : Dat) :
    ASpec Tryd.prog 26 [.d e.dat, .iface 69 (.ptr 0 0 0 3)] [(0, .cs 68 [.d c1, .d c2, .d c3])] 1
      (fun x h' fr' => x = .d (.s (.bool e.isFlt)) ∧ h' = [(0, .cs 68 (e.fltOr [.d c1, .d c2, .d c3]))] ∧ fr' = 1) := by
  refine ASpec.enter Tryd.func26 (by kernel_rfl) rfl (Nat.le_of_ble_eq_true rfl) ?_
  intro cx hnt hfr
  obtain ⟨F, hF⟩ := real_ex
  rcases e.form with ⟨hn2, hf2⟩ | ⟨hn2, t2, x2, hf2⟩
  · rw [hf2, hn2]
    refine AK.run hF tabOK hnt ?_
    conv => arg 4; cbv
    exact AKp.doneN (h' := [(0, .cs 68 [.d c1, .d c2, .d c3])]) tabOK hfr (by rfl) (by repeat (first | exact True.intro | refine ⟨⟨rfl, rfl, rfl⟩, ?_⟩)) ⟨rfl, rfl, rfl⟩
  have sp := asFlt_spec e hn2 c1 c2 c3
  rw [hf2] at sp ⊢
  obtain ⟨l1, l2, l3, hl⟩ : ∃ l1 l2 l3, e.fltOr [.d c1, .d c2, .d c3] = [.d l1, .d l2, .d l3] := by
    cases e <;> exact ⟨_, _, _, rfl⟩
  rw [hl] at sp ⊢
  generalize e.isFlt = zb at *
  refine AK.run hF tabOK hnt ?_
  conv => arg 4; cbv
  refine AKp.valueOf hF tabOK hnt (x := .ptr 0 0 0 3) 1 Tryd.func43 (by kernel_rfl) (by kernel_rfl) (by kernel_rfl) (by kernel_rfl) rfl rfl rfl rfl (by rfl) (iface_formP 69 0 0 0 3) rfl (fun R ι u w hu => by cases hu; exact valueOfF _ w) (Sc.ok_of rfl) ?_
  conv => arg 4; cbv
  refine AKp.ext0 hF tabOK hnt Tryd.func44 (by kernel_rfl) (by kernel_rfl) (by kernel_rfl) (by kernel_rfl) rfl rfl rfl rfl rfl (H_type 69 typeF 1 0 0 1) ?_
  conv => arg 4; cbv
  refine AKp.inv0 hF tabOK hnt Tryd.func101 (by kernel_rfl) (by kernel_rfl) (by kernel_rfl) (by kernel_rfl) rfl rfl rfl rfl rfl rfl (H_kind 69 22 kindF (Sc.ok_of rfl)) ?_
  conv => arg 4; cbv
  rw [show F .eqI (Int.ofNat 22) 22 = true by rw [hF]; rfl, show F .not true = false by rw [hF]; rfl]
  conv => arg 4; cbv
  refine AKp.viaPtr hF tabOK hnt (.d (.s (.bool false))) Tryd.func45 (by kernel_rfl) (by kernel_rfl) (by kernel_rfl) (by kernel_rfl) rfl rfl rfl rfl rfl rfl (fun a p w h => ⟨_, isNilF a p w h, fun R ι hp => .d _ _ (.s (.bool false) trivial)⟩) ?_
  conv => arg 4; cbv
  refine AKp.inv0 hF tabOK hnt Tryd.func113 (by kernel_rfl) (by kernel_rfl) (by kernel_rfl) (by kernel_rfl) rfl rfl rfl rfl rfl rfl (H_elem 69 68 elemF) ?_
  conv => arg 4; cbv
  refine AKp.inv0 hF tabOK hnt Tryd.func101 (by kernel_rfl) (by kernel_rfl) (by kernel_rfl) (by kernel_rfl) rfl rfl rfl rfl rfl rfl (H_kind 68 25 kind27 (Sc.ok_of rfl)) ?_
  conv => arg 4; cbv
  rw [show F .eqI (Int.ofNat 25) 20 = false by rw [hF]; rfl, show F .not false = true by rw [hF]; rfl]
  conv => arg 4; cbv
  refine AKp.loadG hF tabOK hnt (v := .iface 112 (.agg #[.pointer (some ⟨4, 28, none⟩)])) (z := .d (.iface 112 (.agg [.s (.tok 4 28)]))) rfl rfl rfl G_err (fun w hw => ?_) (fun R ι => rtype_rep 28) ?_
  · simp [Instr.loadAt, Instr.sureAddr, loadVar, isAgg, underlying, Tryd.underlying89, hw, Result.andThen]
  conv => arg 4; cbv
  refine AKp.inv0 hF tabOK hnt Tryd.func114 (by kernel_rfl) (by kernel_rfl) (by kernel_rfl) (by kernel_rfl) rfl rfl rfl rfl rfl rfl (H_implements 68 implements27) ?_
  conv => arg 4; cbv
  rw [show F .not true = false by rw [hF]; rfl]
  conv => arg 4; cbv
  refine AKp.call1 hF tabOK hnt sp rfl rfl rfl rfl rfl rfl rfl rfl rfl (by repeat (first | exact True.intro | refine ⟨⟨rfl, rfl, rfl⟩, ?_⟩)) ?_
  rintro x h' fr' ⟨rfl, rfl, rfl⟩
  conv => arg 4; cbv
  exact AKp.doneN (h' := [(0, .cs 68 [.d l1, .d l2, .d l3])]) tabOK hfr (by rfl) (by repeat (first | exact True.intro | refine ⟨⟨rfl, rfl, rfl⟩, ?_⟩)) ⟨rfl, rfl, rfl⟩
end Go.Proofs.YtljidkmppeaecaaDoor

/- fault.Code and fault.Line. -/
namespace Go.Proofs.YtljidkmppeaecaaDoor
open Go Go.Proofs Go.Ua Go.Extern
set_option linter.unusedVariables false

theorem f_not1 {F : Fam} (hF : F = Fam.real) : F .not true = false := by rw [hF]; rfl
theorem f_not0 {F : Fam} (hF : F = Fam.real) : F .not false = true := by rw [hF]; rfl
theorem eqI_t {F : Fam} (hF : F = Fam.real) {a b : Int} (h : F .eqI a b = true) : a = b := by rw [hF] at h; exact eq_of_beq h
theorem eqI_f {F : Fam} (hF : F = Fam.real) {a b : Int} (h : F .eqI a b = false) : a ≠ b := by rw [hF] at h; exact ne_of_beq_false h
def codeF : ErrF → Int
  | .nil => 0
  | e => e.num?.getD 1
def lineF : ErrF → Int
  | .flt l _ e => if l ≠ 0 then l else lineF e
  | _ => 0
theorem FCode_spec (e : ErrF) : ESpec Tryd.prog 13 [.d e.dat] (fun x => x = .d (.s (.int .i64 (codeF e)))) := by
  rcases e.form with ⟨hn2, hf2⟩ | ⟨hn2, t2, x2, hf2⟩
  · rw [hf2, hn2]
    refine ESpec.enter Tryd.func13 (by kernel_rfl) rfl (Nat.le_of_ble_eq_true rfl) fun _ cx hnt hfr => ?_
    obtain ⟨F, hF⟩ := real_ex
    refine AK.run hF tabOK hnt ?_
    conv => arg 4; cbv
    exact AKp.doneE tabOK hfr (by rfl) (by rfl)
  have sp := AsNum_spec e 0
  rw [hf2] at sp ⊢
  have hc : codeF e = e.num?.getD 1 := by cases e <;> first | rfl | exact absurd rfl hn2
  rw [hc]
  obtain ⟨zb, zn, hz, h1, h2⟩ : ∃ zb zn, e.num?.getD 1 = (if zb then zn else 1) ∧ e.num?.isSome = zb ∧ e.num?.getD 0 = zn := by
    cases e.num? <;> exact ⟨_, _, rfl, rfl, rfl⟩
  rw [h1, h2] at sp
  rw [hz]
  clear hz h1 h2 hc
  refine ESpec.enter Tryd.func13 (by kernel_rfl) rfl (Nat.le_of_ble_eq_true rfl) fun _ cx hnt hfr => ?_
  obtain ⟨F, hF⟩ := real_ex
  refine AK.run hF tabOK hnt ?_
  conv => arg 4; cbv
  refine AKp.call1 hF tabOK hnt sp rfl rfl rfl rfl rfl rfl rfl rfl rfl (by repeat (first | exact True.intro | refine ⟨⟨rfl, rfl, rfl⟩, ?_⟩)) ?_
  rintro x h' fr' ⟨rfl, rfl, rfl⟩
  conv => arg 4; cbv
  cases zb
  · conv => arg 4; cbv
    exact AKp.doneE tabOK hfr (by rfl) (by rfl)
  · conv => arg 4; cbv
    exact AKp.doneE tabOK hfr (by rfl) (by rfl)

theorem FLine_spec (e : ErrF) : ESpec Tryd.prog 14 [.d e.dat] (fun x => x = .d (.s (.int .i64 (lineF e)))) := by
  obtain ⟨ed, hed⟩ : ∃ d, d = e.dat := ⟨_, rfl⟩
  rw [← hed]
  refine ESpec.enter Tryd.func14 (by kernel_rfl) rfl (Nat.le_of_ble_eq_true rfl) fun _ cx hnt hfr => ?_
  obtain ⟨F, hF⟩ := real_ex
  refine AK.run hF tabOK hnt ?_
  conv => arg 4; cbv
  refine AKp.enterLoop 4 ?_
  conv => arg 7; cbv
  refine AKl.inv hF tabOK hnt hfr (fun n vs hs => ∃ (e1 : ErrF) (d1 c1 c2 c3 : Dat), d1 = e1.dat ∧ e1.depth = n ∧ lineF e1 = lineF e ∧ vs = [(0, .d d1)] ∧ hs = [(0, .cs 68 [.d c1, .d c2, .d c3])]) e.depth
    ⟨e, ed, _, _, _, hed, rfl, rfl, rfl, rfl⟩ (by repeat (first | exact True.intro | refine ⟨⟨rfl, rfl⟩, ?_⟩)) (by repeat (first | exact True.intro | refine ⟨⟨rfl, rfl, rfl⟩, ?_⟩)) ?_
  rintro J n vs hs hJ ⟨e1, d1, c1, c2, c3, hd1, hdep, hres, rfl, rfl⟩
  conv => arg 4; cbv
  have sp := AsFlt_spec e1 c1 c2 c3
  rw [← hd1] at sp
  cases e1 with
  | flt l w e2 =>
    obtain ⟨d2, hd2⟩ : ∃ d, d = e2.dat := ⟨_, rfl⟩
    simp only [ErrF.isFlt, ErrF.fltOr, ← hd2] at sp
    refine AKp.call1 hF tabOK hnt sp rfl rfl rfl rfl rfl rfl rfl rfl rfl (by repeat (first | exact True.intro | refine ⟨⟨rfl, rfl, rfl⟩, ?_⟩)) ?_
    rintro x h' fr' ⟨rfl, rfl, rfl⟩
    conv => arg 4; cbv
    cases hb : F .eqI l 0
    · rw [f_not0 hF]
      conv => arg 4; cbv
      have hb' := eqI_f hF hb
      rw [← hres, show lineF (.flt l w e2) = l by simp [lineF, hb']]
      exact AKp.doneE tabOK hfr (by rfl) (by rfl)
    · rw [f_not1 hF]
      conv => arg 4; cbv
      have hb' := eqI_t hF hb
      subst hF
      exact AKp.again _ hfr (by repeat (first | exact True.intro | refine ⟨⟨rfl, rfl⟩, ?_⟩)) (by repeat (first | exact True.intro | refine ⟨⟨rfl, rfl, rfl⟩, ?_⟩)) (hJ e2.depth _ _ (by rw [← hdep]; exact Nat.lt_succ_self _) ⟨e2, d2, _, _, _, hd2, rfl, by rw [← hres]; simp [lineF, hb'], rfl, rfl⟩)
  | nil =>
    simp only [ErrF.isFlt, ErrF.fltOr] at sp
    refine AKp.call1 hF tabOK hnt sp rfl rfl rfl rfl rfl rfl rfl rfl rfl (by repeat (first | exact True.intro | refine ⟨⟨rfl, rfl, rfl⟩, ?_⟩)) ?_
    rintro x h' fr' ⟨rfl, rfl, rfl⟩
    conv => arg 4; cbv
    rw [← hres]
    exact AKp.doneE tabOK hfr (by rfl) (by rfl)
  | num m =>
    simp only [ErrF.isFlt, ErrF.fltOr] at sp
    refine AKp.call1 hF tabOK hnt sp rfl rfl rfl rfl rfl rfl rfl rfl rfl (by repeat (first | exact True.intro | refine ⟨⟨rfl, rfl, rfl⟩, ?_⟩)) ?_
    rintro x h' fr' ⟨rfl, rfl, rfl⟩
    conv => arg 4; cbv
    rw [← hres]
    exact AKp.doneE tabOK hfr (by rfl) (by rfl)

theorem fcode_spec (n e : Int) (w : List UInt8) : ESpec Tryd.prog 13 [.d (.iface 68 (.agg [.s (.int .i64 n), .s (.str w), .iface 45 (.s (.int .i64 e))]))] (fun x => x = .d (.s (.int .i64 e))) := FCode_spec (.flt n w (.num e))
theorem fline_spec (n e : Int) (w : List UInt8) : ESpec Tryd.prog 14 [.d (.iface 68 (.agg [.s (.int .i64 n), .s (.str w), .iface 45 (.s (.int .i64 e))]))] (fun x => x = .d (.s (.int .i64 n))) := by
  have h := FLine_spec (.flt n w (.num e))
  have e1 : lineF (.flt n w (.num e)) = n := by
    simp only [lineF]
    split
    · rfl
    · rename_i h
      exact (Decidable.not_not.1 h).symm
  rw [e1] at h
  exact h
def φFCode  : List AV → Option (Bool × AV)
  | [.d (.iface 68 (.agg [.s (.int .i64 n), .s (.str w), .iface 45 (.s (.int .i64 e))]))] => some (true, .d (.s (.int .i64 e)))
  | _ => none
theorem φFCode_ok : SpOK Tryd.prog 13 (φFCode ) := by
  intro xs b x h hb
  unfold φFCode at h
  split at h
  · simp only [Option.some.injEq, Prod.mk.injEq] at h
    obtain ⟨rfl, rfl⟩ := h
    exact fcode_spec _ _ _
  · cases h
def φFLine  : List AV → Option (Bool × AV)
  | [.d (.iface 68 (.agg [.s (.int .i64 n), .s (.str w), .iface 45 (.s (.int .i64 e))]))] => some (true, .d (.s (.int .i64 n)))
  | _ => none
theorem φFLine_ok : SpOK Tryd.prog 14 (φFLine ) := by
  intro xs b x h hb
  unfold φFLine at h
  split at h
  · simp only [Option.some.injEq, Prod.mk.injEq] at h
    obtain ⟨rfl, rfl⟩ := h
    exact fline_spec _ _ _
  · cases h
end Go.Proofs.YtljidkmppeaecaaDoor

/- Chapter 10: what is awake. -/
namespace Go.Proofs.YtljidkmppeaecaaDoor
open Go Go.Proofs Go.Ua Go.Extern
set_option linter.unusedVariables false
set_option linter.unusedSimpArgs false
set_option maxRecDepth 10000
def awT1 : Wd := [116,111,116,97,108,32,49,48,10,108,101,118,101,108,32,97,32,53,32,48,32,97,108,108,32,114,101,106,101,99,116,10,115,99,104,101,109,97,32,115,32,97,32,55,32,117,115,101,114,10,114,117,108,101,32,42,32,45,32,103,101,116,44,108,105,115,116,32,42,32,45]
def awT2 : Wd := [112,101,114,105,111,100,32,51,10,116,111,116,97,108,32,48]
def awC1 : Cf := ⟨10, 0, 0, 0, [⟨[97], 2, 5, 0, -1, 0, 0, 0, 0, 0⟩], [⟨[115], [97], 7, 1, [⟨[[42]], [], [[103, 101, 116], [108, 105, 115, 116]], [[42]], []⟩]⟩]⟩
theorem awP1 : parF awT1 = (awC1, 0, 0) := by kernel_rfl
theorem awP2 : parF awT2 = (zeroC, 8, 2) := by kernel_rfl
theorem parse1_spec (L S : List Dat) (hL : L = lvDs awC1.ls) (hS : S = smDs awC1.ss) : ESpec Tryd.prog 9 [.d (.s (.str awT1))] (fun x => x = .tup [.d (.agg [.s (.int .i64 10), .s (.int .i64 0), .s (.int .i64 0), .s (.int .i64 0), .view 10 L, .view 5 S]), .d (.s .if0)]) := by
  have sp := parse_spec awT1
  rw [awP1] at sp
  subst hL hS
  exact sp
theorem parse2_spec : ESpec Tryd.prog 9 [.d (.s (.str awT2))] (fun x => x = .tup [.d (.agg [.s (.int .i64 0), .s (.int .i64 0), .s (.int .i64 0), .s (.int .i64 0), .view 10 [], .view 5 []]), .d (.iface 68 (.agg [.s (.int .i64 2), .s (.str []), .iface 45 (.s (.int .i64 8))]))]) := by
  have sp := parse_spec awT2
  rw [awP2] at sp
  exact sp
set_option maxHeartbeats 4000000 in
set_option cbv.maxSteps 10000000 in
theorem awake10_spec : ESpec Tryd.prog 8 [] (fun x => x = .d (.s (.bool true))) := by
  obtain ⟨L, hL⟩ : ∃ z, z = lvDs awC1.ls := ⟨_, rfl⟩
  obtain ⟨S, hS⟩ : ∃ z, z = smDs awC1.ss := ⟨_, rfl⟩
  refine ESpec.enter Tryd.func8 (by kernel_rfl) rfl (Nat.le_of_ble_eq_true rfl) fun hok cx hnt hfr => ?_
  obtain ⟨F, hF⟩ := real_ex
  refine AK.runT hF tabOK hmix hnt hfr true [] trivial ?_
  conv => arg 4; cbv
  repeat' (first | with_reducible (first | refine AKt.have ?_ | refine AKt.tt ?_ | refine AKt.ff ?_ | refine AKt.yes (by assumption) ?_ | refine AKt.no (by assumption) ?_ | refine AKt.node (fun hb => ?_) (fun hb => ?_) | refine AKt.need ?_ (fun hb => ?_) | refine AKt.leaf ?_) | ((with_reducible show _ = true); assumption))
  refine AKp.call hF tabOK hnt (parse1_spec L S hL hS) rfl rfl rfl rfl rfl rfl rfl (by repeat' first | exact .refl _ | constructor) ?_
  rintro _ rfl
  refine AK.runT hF tabOK hmix hnt hfr true [] trivial ?_
  conv => arg 4; cbv
  repeat' (first | with_reducible (first | refine AKt.have ?_ | refine AKt.tt ?_ | refine AKt.ff ?_ | refine AKt.yes (by assumption) ?_ | refine AKt.no (by assumption) ?_ | refine AKt.node (fun hb => ?_) (fun hb => ?_) | refine AKt.need ?_ (fun hb => ?_) | refine AKt.leaf ?_) | ((with_reducible show _ = true); assumption))
  refine AKp.call hF tabOK hnt parse2_spec rfl rfl rfl rfl rfl rfl rfl (by repeat' first | exact .refl _ | constructor) ?_
  rintro _ rfl
  refine AK.runT hF tabOK hmix hnt hfr true [] trivial ?_
  conv => arg 4; cbv
  have e10 : F .eqI 10 10 = true := by rw [hF]; rfl
  have lL : F .lenD L = 1 := by rw [hF, hL]; rfl
  have lS : F .lenD S = 1 := by rw [hF, hS]; rfl
  have e1 : F .eqI 1 1 = true := by rw [hF]; rfl
  obtain ⟨R, hR⟩ : ∃ z, z = rlDs [⟨[[42]], [], [[103, 101, 116], [108, 105, 115, 116]], [[42]], []⟩] := ⟨_, rfl⟩
  have lR : F .lenD R = 1 := by rw [hF, hR]; rfl
  have gL : F .getD L 0 = some (.agg [.s (.str [97]), .s (.int .i64 2), .s (.int .i64 5), .s (.int .i64 0), .s (.int .i64 (-1)), .s (.int .i64 0), .s (.int .i64 0), .s (.int .i64 0), .s (.int .i64 0), .s (.int .i64 0)]) := by rw [hF, hL]; rfl
  have gS : F .getD S 0 = some (.agg [.s (.str [115]), .s (.str [97]), .s (.int .i64 7), .s (.int .i64 1), .view 5 R]) := by rw [hF, hS, hR]; rfl
  have em : F .eqI (-1) (-1) = true := by rw [hF]; rfl
  repeat
    first
      | rw [e10]
      | rw [gL]
      | rw [em]
      | rw [gS]
      | rw [lL, e1]
      | rw [lS, e1]
      | rw [lR, e1]
    conv => arg 4; cbv
  repeat' (first | with_reducible (first | refine AKt.have ?_ | refine AKt.tt ?_ | refine AKt.ff ?_ | refine AKt.yes (by assumption) ?_ | refine AKt.no (by assumption) ?_ | refine AKt.node (fun hb => ?_) (fun hb => ?_) | refine AKt.need ?_ (fun hb => ?_) | refine AKt.leaf ?_) | ((with_reducible show _ = true); assumption))

  refine AKp.doneE tabOK hfr (by rfl) ?_
  show _ = _
  simp only [tupAV]
  rw [hF]
  rfl
end Go.Proofs.YtljidkmppeaecaaDoor

/- Chapter 10: the first fault is that of the beginning. -/
namespace Go.Proofs.YtljidkmppeaecaaDoor
open Go Go.Proofs Go.Ua Go.Extern
set_option linter.unusedVariables false
set_option linter.unusedSimpArgs false
set_option maxRecDepth 10000
def φAwake10  : List AV → Option (Bool × AV)
  | [] => some (true, .d (.s (.bool true)))
  | _ => none
theorem φAwake10_ok : SpOK Tryd.prog 8 (φAwake10 ) := by
  intro xs b x h hb
  unfold φAwake10 at h
  split at h
  · simp only [Option.some.injEq, Prod.mk.injEq] at h
    obtain ⟨rfl, rfl⟩ := h
    exact awake10_spec
  · cases h
end Go.Proofs.YtljidkmppeaecaaDoor

/- Configurations that are small enough for a look. -/
namespace Go.Proofs.YtljidkmppeaecaaDoor
open Go Go.Proofs Go.Ua Go.Extern
set_option linter.unusedVariables false
set_option linter.unusedSimpArgs false

end Go.Proofs.YtljidkmppeaecaaDoor

/- A line's numbers, as the document tells them. -/
namespace Go.Proofs.YtljidkmppeaecaaDoor
open Go Go.Proofs Go.Ua Go.Extern
set_option linter.unusedVariables false
set_option linter.unusedSimpArgs false
set_option maxRecDepth 10000

end Go.Proofs.YtljidkmppeaecaaDoor

