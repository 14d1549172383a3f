/- The operations on abstract values that leave the world as it is, put together. A library of this claim's own: no statement stands in it. -/
import Derived.Test.YtialapjchamkfaaDoorUaC
namespace Go.Ua
open Go
set_option linter.unusedVariables false
set_option linter.unusedSimpArgs false

section
variable {X L : Nat → Prop} {w0 : W0} {w : World} {nt : Nat} {ι : Io} {S : St} {a : Act} {P : Program} {τ : Tab}

/-! ### Equality -/

def kindOf (τ : Tab) (t : TypeId) : TK := match look t τ with
  | some y => y.k
  | none => .other

/-- Equality of two structs of scalars, field by field. -/
def eqFlat (A : Ar) (τ : Tab) : List (Nat × TypeId) → List Dat → List Dat → Option Bool
  | [], _, _ => some true
  | (o, t) :: r, xs, ys => match kindOf τ t, xs[o]?, ys[o]? with
    | .int _, some (.s (.int k a)), some (.s (.int k' b)) => if k = k' then (match eqFlat A τ r xs ys with
      | some e => some (A.andB (A.eqI a b) e)
      | none => none) else none
    | .string, some (.s (.str a)), some (.s (.str b)) => (match eqFlat A τ r xs ys with
      | some e => some (A.andB (A.eqS a b) e)
      | none => none)
    | .bool, some (.s (.bool a)), some (.s (.bool b)) => (match eqFlat A τ r xs ys with
      | some e => some (A.andB (A.eqB a b) e)
      | none => none)
    | _, _, _ => none

theorem kindOf_run (hτ : TabOK P τ) {t : TypeId} {k : TK} (h : kindOf τ t = k) (hk : ∀ d, ¬ TK.ok d .other → True) (ho : k ≠ .other) :
    ∃ d i y, look t τ = some y ∧ y.k = k ∧ P.underlying t = some d ∧ P.info? t = some i ∧ i.size = y.size ∧ k.ok d := by
  unfold kindOf at h
  split at h
  · rename_i y hy
    obtain ⟨d, i, hu, hi, hs, _, _, _, hk, _⟩ := hτ.get hy
    exact ⟨d, i, y, hy, h, hu, hi, hs, h ▸ hk⟩
  · exact absurd h.symm ho

theorem part_scalar {t : TypeId} {d : TypeDesc} {k : TK} (hu : P.underlying t = some d) (hk : k.ok d) (hag : k.isAgg = false) {cs : Array Value} {o : Nat} {v : Value} (hv : cs[o]? = some v) :
    (part t cs o).run P w = .ok v w := by
  simp [part, Sem.run_bind, TK.isAgg_run hu hk, hag, hv]

theorem eqFlat_run (hτ : TabOK P τ) {fs : List Field} {xs ys : List Dat} {vs us : List Value} {R : Rd}
    (hn : (fs.all fun f => f.name != "_") = true)
    (hx : ∀ (i : Nat) (c : Dat) (v : Value), xs[i]? = some c → vs[i]? = some v → RepD R c v) (hlx : xs.length = vs.length)
    (hy : ∀ (i : Nat) (c : Dat) (v : Value), ys[i]? = some c → us[i]? = some v → RepD R c v) (hly : ys.length = us.length) {e : Bool}
    (h : eqFlat Ar.real τ (fs.map fun f => (f.offset, f.type)) xs ys = some e) (n : Nat) :
    (Op.eqFields (n + 1) vs.toArray us.toArray fs).run P w = .ok e w := by
  induction fs generalizing e with
  | nil => simp [eqFlat] at h; subst h; simp [Op.eqFields]
  | cons f r ih =>
    simp only [List.all_cons, Bool.and_eq_true] at hn
    have hfn : f.name ≠ "_" := by simpa using hn.1
    simp only [List.map_cons, eqFlat] at h
    have key : ∀ (x y : Sc) (q : Bool), xs[f.offset]? = some (.s x) → ys[f.offset]? = some (.s y) →
        (∀ u' v', u' = x.val → v' = y.val → (Op.equalIn (n + 1) f.type u' v').run P w = .ok q w) → kindOf τ f.type ≠ .other → (kindOf τ f.type).isAgg = false →
        ∀ e', eqFlat Ar.real τ (r.map fun f => (f.offset, f.type)) xs ys = some e' →
        (Op.eqFields (n + 1) vs.toArray us.toArray (f :: r)).run P w = .ok (q && e') w := by
      intro x y q hxo hyo hq ho hag e' he'
      obtain ⟨d, i, yy, _, _, hu, _, _, hk⟩ := kindOf_run hτ rfl (fun _ _ => trivial) ho
      have hvo : vs[f.offset]? = some x.val := by
        have hlt : f.offset < vs.length := hlx ▸ (List.getElem?_eq_some_iff.1 hxo).1
        have := hx _ _ _ hxo (List.getElem?_eq_getElem hlt)
        rw [List.getElem?_eq_getElem hlt, this.sc]
      have huo : us[f.offset]? = some y.val := by
        have hlt : f.offset < us.length := hly ▸ (List.getElem?_eq_some_iff.1 hyo).1
        have := hy _ _ _ hyo (List.getElem?_eq_getElem hlt)
        rw [List.getElem?_eq_getElem hlt, this.sc]
      simp only [Op.eqFields, if_pos hfn, Sem.run_bind, part_scalar (P := P) (w := w) hu hk hag (cs := vs.toArray) (by simpa using hvo),
        part_scalar (P := P) (w := w) hu hk hag (cs := us.toArray) (by simpa using huo), Result.andThen_ok, hq _ _ rfl rfl]
      cases q
      · simp
      · simp [ih hn.2 he']
    split at h
    · rename_i k0 k1 a k2 b hk hxo hyo
      by_cases hkk : k1 = k2
      case neg => rw [if_neg hkk] at h; cases h
      rw [if_pos hkk] at h
      subst hkk
      split at h
      · rename_i e' he'
        obtain rfl := Option.some.inj h
        refine key _ _ (a == b) hxo hyo (fun u' v' h1 h2 => ?_) (by rw [hk]; simp) (by rw [hk]; rfl) e' he'
        obtain ⟨d, i, yy, _, _, hu, _, _, hk'⟩ := kindOf_run hτ hk (fun _ _ => trivial) (by simp)
        subst h1; subst h2
        simp only [TK.ok] at hk'
        subst hk'
        exact run_equalIn_int w n f.type _ _ _ _ hu
      · cases h
    · rename_i a b hk hxo hyo
      split at h
      · rename_i e' he'
        obtain rfl := Option.some.inj h
        refine key _ _ (a == b) hxo hyo (fun u' v' h1 h2 => ?_) (by rw [hk]; simp) (by rw [hk]; rfl) e' he'
        obtain ⟨d, i, yy, _, _, hu, _, _, hk'⟩ := kindOf_run hτ hk (fun _ _ => trivial) (by simp)
        subst h1; subst h2
        simp only [TK.ok] at hk'
        subst hk'
        simp only [Sc.val]
        rw [run_equalIn_string w n f.type _ _ hu]
        simp
      · cases h
    · rename_i a b hk hxo hyo
      split at h
      · rename_i e' he'
        obtain rfl := Option.some.inj h
        refine key _ _ (a == b) hxo hyo (fun u' v' h1 h2 => ?_) (by rw [hk]; simp) (by rw [hk]; rfl) e' he'
        obtain ⟨d, i, yy, _, _, hu, _, _, hk'⟩ := kindOf_run hτ hk (fun _ _ => trivial) (by simp)
        subst h1; subst h2
        simp only [TK.ok] at hk'
        subst hk'
        exact run_equalIn_bool' w n f.type _ _ hu
      · cases h
    · cases h


def isConst : Operand → Bool
  | .const _ => true
  | _ => false

/-- '==' ('ne': '!='). -/
def eqAV (A : Ar) (τ : Tab) (t : TypeId) (xo yo : Operand) (x y : AV) : Option Bool :=
  match x, y with
  | .d (.s (.bool a)), .d (.s (.bool b)) => (match kindOf τ t with
    | .bool => some (A.eqB a b)
    | _ => none)
  | .d (.s .if0), .d (.s .if0) => (match kindOf τ t with
    | .iface => if isConst xo || isConst yo then some true else none
    | _ => none)
  | .d (.s .if0), .d (.iface _ _) => (match kindOf τ t with
    | .iface => some false
    | _ => none)
  | .d (.iface _ _), .d (.s .if0) => (match kindOf τ t with
    | .iface => some false
    | _ => none)
  | .d (.iface t1 _), .d (.iface t2 _) => (match kindOf τ t, Nat.beq t1 t2 with
    | .iface, false => some false
    | _, _ => none)
  | .d (.s .if0), .iface _ _ => (match kindOf τ t with
    | .iface => some false
    | _ => none)
  | .iface _ _, .d (.s .if0) => (match kindOf τ t with
    | .iface => some false
    | _ => none)
  | .d (.agg xs), .d (.agg ys) => (match look t τ with
    | some y => (match y.k, y.eq with
      | .struct fs, true => eqFlat A τ fs xs ys
      | _, _ => none)
    | none => none)
  | _, _ => none

theorem eqGuard_plain {op : BinOp} {t : TypeId} {xo yo : Operand} {v u : Value} (h : (∀ c, v ≠ .agg c) ∧ v ≠ .nilIface ∨ (∀ c, u ≠ .agg c) ∧ u ≠ .nilIface) :
    (eqGuard op t xo yo v u).run P w = .ok () w := by
  unfold eqGuard
  cases op <;> cases v <;> cases u <;> first
    | rfl
    | (simp at h; done)

theorem equalIn_nil2 {t : TypeId} {ms : Array (String × TypeId)} (hu : P.underlying t = some (.interface ms)) (n : Nat) : (Op.equalIn (n + 1) t .nilIface .nilIface).run P w = .ok true w := by
  simp [Op.equalIn, run_underlying hu]
theorem equalIn_nil_l {t tx : TypeId} {v : Value} {ms : Array (String × TypeId)} (hu : P.underlying t = some (.interface ms)) (n : Nat) : (Op.equalIn (n + 1) t .nilIface (.iface tx v)).run P w = .ok false w := by
  simp [Op.equalIn, run_underlying hu]
theorem equalIn_nil_r {t tx : TypeId} {v : Value} {ms : Array (String × TypeId)} (hu : P.underlying t = some (.interface ms)) (n : Nat) : (Op.equalIn (n + 1) t (.iface tx v) .nilIface).run P w = .ok false w := by
  simp [Op.equalIn, run_underlying hu]

theorem equalIn_ne {t tx ty : TypeId} {v u : Value} {ms : Array (String × TypeId)} (hu : P.underlying t = some (.interface ms)) (hne : tx ≠ ty) (n : Nat) : (Op.equalIn (n + 1) t (.iface tx v) (.iface ty u)).run P w = .ok false w := by
  simp [Op.equalIn, run_underlying hu, hne]

theorem eqAV_run (hτ : TabOK P τ) {R : Rd} {t : TypeId} {xo yo : Operand} {x y : AV} {v u : Value} (hx : RepV R ι x v) (hy : RepV R ι y u)
    (hxc : isConst xo = true → ∃ c, xo = .const c) {e : Bool} (h : eqAV Ar.real τ t xo yo x y = some e) :
    (do eqGuard .eql t xo yo v u; Go.binOp .eql t v u).run P w = .ok (.bool e) w ∧
    (do eqGuard .neq t xo yo v u; Go.binOp .neq t v u).run P w = .ok (.bool (!e)) w := by
  have two : (∀ op, op = .eql ∨ op = .neq → (eqGuard op t xo yo v u).run P w = .ok () w) → (Op.equalIn 10000 t v u).run P w = .ok e w →
      (Go.binOp .eql t v u = do pure (.bool (← Op.equal t v u))) → (Go.binOp .neq t v u = do pure (.bool (!(← Op.equal t v u)))) →
      (do eqGuard .eql t xo yo v u; Go.binOp .eql t v u).run P w = .ok (.bool e) w ∧
      (do eqGuard .neq t xo yo v u; Go.binOp .neq t v u).run P w = .ok (.bool (!e)) w := by
    intro hg he h1 h2
    rw [h1, h2]
    constructor
    · simp [Sem.run_bind, hg .eql (.inl rfl), Op.equal, Op.maxDepth, he]
    · simp [Sem.run_bind, hg .neq (.inr rfl), Op.equal, Op.maxDepth, he]
  unfold eqAV at h
  split at h
  · rename_i a b
    obtain rfl := rep_s hx
    obtain rfl := rep_s hy
    split at h
    · rename_i hk
      obtain rfl := Option.some.inj h
      obtain ⟨d, i, yy, _, _, hu, _, _, hk'⟩ := kindOf_run hτ hk (fun _ _ => trivial) (by simp)
      simp only [TK.ok] at hk'
      subst hk'
      exact two (fun op _ => eqGuard_plain (.inl ⟨by simp [Sc.val], by simp [Sc.val]⟩)) (run_equalIn_bool' w 9999 t a b hu) rfl rfl
    · cases h
  · obtain rfl := rep_s hx
    obtain rfl := rep_s hy
    split at h
    · rename_i hk
      split at h
      · rename_i hc
        obtain rfl := Option.some.inj h
        obtain ⟨d, i, yy, _, _, hu, _, _, hk'⟩ := kindOf_run hτ hk (fun _ _ => trivial) (by simp)
        obtain ⟨ms, rfl⟩ := hk'
        refine two (fun op hop => ?_) ?_ rfl rfl
        · have hcc : (match xo with | .const _ => true | _ => false) = true ∨ (match yo with | .const _ => true | _ => false) = true := by
            simp only [isConst, Bool.or_eq_true] at hc
            exact hc
          unfold eqGuard
          rcases hop with rfl | rfl
          all_goals
            simp only [Sc.val]
            cases xo <;> cases yo <;> simp_all
        · exact equalIn_nil2 hu 9999
      · cases h
    · cases h
  · obtain rfl := rep_s hx
    cases rep_d hy with
    | iface ty z v hz =>
    split at h
    · rename_i hk
      obtain rfl := Option.some.inj h
      obtain ⟨d, i, yy, _, _, hu, _, _, hk'⟩ := kindOf_run hτ hk (fun _ _ => trivial) (by simp)
      obtain ⟨ms, rfl⟩ := hk'
      refine two (fun op hop => eqGuard_plain (.inr ⟨by simp, by simp⟩)) ?_ rfl rfl
      exact equalIn_nil_l hu 9999
    · cases h
  · obtain rfl := rep_s hy
    cases rep_d hx with
    | iface ty z v hz =>
    split at h
    · rename_i hk
      obtain rfl := Option.some.inj h
      obtain ⟨d, i, yy, _, _, hu, _, _, hk'⟩ := kindOf_run hτ hk (fun _ _ => trivial) (by simp)
      obtain ⟨ms, rfl⟩ := hk'
      refine two (fun op hop => eqGuard_plain (.inl ⟨by simp, by simp⟩)) ?_ rfl rfl
      exact equalIn_nil_r hu 9999
    · cases h
  · cases rep_d hx with
    | iface t1 z1 v1 hz1 =>
    cases rep_d hy with
    | iface t2 z2 v2 hz2 =>
    split at h
    · rename_i hk hne
      obtain rfl := Option.some.inj h
      obtain ⟨d, i, yy, _, _, hu, _, _, hk'⟩ := kindOf_run hτ hk (fun _ _ => trivial) (by simp)
      obtain ⟨ms, rfl⟩ := hk'
      have hne' := Nat.ne_of_beq_eq_false hne
      refine two (fun op hop => eqGuard_plain (.inl ⟨by simp, by simp⟩)) ?_ rfl rfl
      exact equalIn_ne hu hne' 9999
    · cases h
  · obtain rfl := rep_s hx
    cases hy with
    | iface ty z v hz =>
    split at h
    · rename_i hk
      obtain rfl := Option.some.inj h
      obtain ⟨d, i, yy, _, _, hu, _, _, hk'⟩ := kindOf_run hτ hk (fun _ _ => trivial) (by simp)
      obtain ⟨ms, rfl⟩ := hk'
      refine two (fun op hop => eqGuard_plain (.inr ⟨by simp, by simp⟩)) ?_ rfl rfl
      exact equalIn_nil_l hu 9999
    · cases h
  · obtain rfl := rep_s hy
    cases hx with
    | iface ty z v hz =>
    split at h
    · rename_i hk
      obtain rfl := Option.some.inj h
      obtain ⟨d, i, yy, _, _, hu, _, _, hk'⟩ := kindOf_run hτ hk (fun _ _ => trivial) (by simp)
      obtain ⟨ms, rfl⟩ := hk'
      refine two (fun op hop => eqGuard_plain (.inl ⟨by simp, by simp⟩)) ?_ rfl rfl
      exact equalIn_nil_r hu 9999
    · cases h
  · rename_i xs ys
    cases rep_d hx with
    | agg _ vs hl h1 hr =>
    cases rep_d hy with
    | agg _ us hl2 h12 hr2 =>
    split at h
    · rename_i yt hyt
      split at h
      · rename_i fs hk he
        obtain ⟨d, i, hu, hi, hs, _, _, _, hk', _, heq⟩ := hτ.get hyt
        obtain ⟨hf, hst, hg, hn⟩ := heq he
        rw [hk] at hk'
        obtain ⟨fields, rfl, hfs⟩ := hk'
        rw [hu] at hf
        have hff : fields = P.fieldsOf t := by simpa using hf
        subst hfs
        rw [hff] at h
        refine two (fun op hop => run_eqGuard_agg w op t xo yo _ _ hg) ?_ rfl rfl
        rw [run_equalIn_agg w 9999 t _ _ (by rw [hu, hff]) hst]
        exact eqFlat_run hτ hn hr hl hr2 hl2 h 9998
      · cases h
    · cases h
  · cases h

def binAV (A : Ar) (τ : Tab) (op : BinOp) (t : TypeId) (xo yo : Operand) (x y : AV) : Option AV :=
  match x, y with
  | .d (.s (.int k a)), .d (.s (.int k' b)) => (match binSc A op yo (.int k a) (.int k' b) with
    | some z => some (.d (.s z))
    | none => none)
  | .d (.s (.str a)), .d (.s (.str b)) => (match binSc A op yo (.str a) (.str b) with
    | some z => some (.d (.s z))
    | none => none)
  | x, y => (match op with
    | .eql => (match eqAV A τ t xo yo x y with
      | some e => some (.d (.s (.bool e)))
      | none => none)
    | .neq => (match eqAV A τ t xo yo x y with
      | some e => some (.d (.s (.bool (A.not e))))
      | none => none)
    | _ => none)

theorem Rel.evl_const (H : Rel X L w0 nt ι S a w) {x : Operand} {c : Sc} (hx : Ua.evl S x = .d (.s c)) : ∀ v, x = .const v → c.val = v := by
  intro v hv
  have := H.evl x
  rw [hx] at this
  have := rep_s this
  subst hv
  simpa [Act.eval] using this.symm

theorem binAV_run (hτ : TabOK P τ) (H : Rel X L w0 nt ι S a w) {op : BinOp} {t : TypeId} {xo yo : Operand} {z : AV}
    (h : binAV Ar.real τ op t xo yo (evl S xo) (evl S yo) = some z) :
    ∃ v, (do eqGuard op t xo yo (a.eval xo) (a.eval yo); Go.binOp op t (a.eval xo) (a.eval yo)).run P w = .ok v w ∧ RepV (rdOf L ι S.h w) ι z v := by
  have hx := H.evl xo
  have hy := H.evl yo
  unfold binAV at h
  split at h
  · rename_i k a1 k' b1 e1 e2
    rw [e1] at hx; rw [e2] at hy
    have hv := rep_s hx
    have hu := rep_s hy
    split at h
    · rename_i z hz
      obtain rfl := Option.some.inj h
      refine ⟨z.val, ?_, .d _ _ (.s z (binSc_ok (rep_ok hx) (rep_ok hy) hz))⟩
      have := binSc_run (P := P) (w := w) (t := t) (H.evl_const e2) hz
      rw [hv, hu]
      simp only [Sem.run_bind, eqGuard_plain (P := P) (w := w) (op := op) (t := t) (xo := xo) (yo := yo) (v := (Sc.int k a1).val) (u := (Sc.int k' b1).val) (.inl ⟨by simp [Sc.val], by simp [Sc.val]⟩), Result.andThen_ok, this]
    · cases h
  · rename_i a1 b1 e1 e2
    rw [e1] at hx; rw [e2] at hy
    have hv := rep_s hx
    have hu := rep_s hy
    split at h
    · rename_i z hz
      obtain rfl := Option.some.inj h
      refine ⟨z.val, ?_, .d _ _ (.s z (binSc_ok (rep_ok hx) (rep_ok hy) hz))⟩
      have := binSc_run (P := P) (w := w) (t := t) (H.evl_const e2) hz
      rw [hv, hu]
      simp only [Sem.run_bind, eqGuard_plain (P := P) (w := w) (op := op) (t := t) (xo := xo) (yo := yo) (v := (Sc.str a1).val) (u := (Sc.str b1).val) (.inl ⟨by simp [Sc.val], by simp [Sc.val]⟩), Result.andThen_ok, this]
    · cases h
  · split at h
    · split at h
      · rename_i e he
        obtain rfl := Option.some.inj h
        exact ⟨.bool e, (eqAV_run hτ hx hy (fun hc => by cases xo <;> simp [isConst] at hc; exact ⟨_, rfl⟩) he).1, .d _ _ (.s (.bool e) trivial)⟩
      · cases h
    · split at h
      · rename_i e he
        obtain rfl := Option.some.inj h
        exact ⟨.bool (!e), (eqAV_run hτ hx hy (fun hc => by cases xo <;> simp [isConst] at hc; exact ⟨_, rfl⟩) he).2, .d _ _ (.s (.bool (!e)) trivial)⟩
      · cases h
    · cases h

end
end Go.Ua
