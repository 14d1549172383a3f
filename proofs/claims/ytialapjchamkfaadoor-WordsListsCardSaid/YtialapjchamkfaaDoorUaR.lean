/- Functions: what they come to, how they are entered, left, called. A library of this claim's own: no statement stands in it. -/
import Derived.Test.YtialapjchamkfaaDoorUaP
import Derived.Shelf.Abstract
namespace Go.Ua
open Go Go.Proofs
set_option linter.unusedVariables false
set_option linter.unusedSimpArgs false
set_option linter.unusedSectionVars false

/-- What a call comes to. -/
def Res (X L : Nat → Prop) (w0 : W0) (Q : AV → List (Nat × Blk) → Nat → Prop) (e : Ending) (w' : World) : Prop :=
  ∃ v x h' fr' ι', e = .returned v ∧ Q x h' fr' ∧ RepV (rdOf L ι' h' w') ι' x v ∧ HRel X L w0 ι' h' fr' w'

/-- Called with such arguments (and such blocks handed in, named from 0 on) the function comes to what Q says. -/
def ASpec (P : Program) [Globs P] (f : FuncId) (args : List AV) (h : List (Nat × Blk)) (fr : Nat) (Q : AV → List (Nat × Blk) → Nat → Prop) : Prop :=
  Enters P f ∧ ∀ (X L : Nat → Prop) (w : World) (ι : Io) (vs : List Value), HRel X L ⟨w, ι, fr⟩ ι h fr w → GOK P X w → args.length = vs.length →
    (∀ (i : Nat) (x : AV) (v : Value), args[i]? = some x → vs[i]? = some v → RepV (rdOf L ι h w) ι x v) →
    Calls P f vs.toArray w (Res X L ⟨w, ι, fr⟩ Q)

theorem ASpec.mono {P : Program} [Globs P] {f : FuncId} {args : List AV} {h : List (Nat × Blk)} {fr : Nat} {Q Q' : AV → List (Nat × Blk) → Nat → Prop} (H : ASpec P f args h fr Q) (hq : ∀ x h' fr', Q x h' fr' → Q' x h' fr') :
    ASpec P f args h fr Q' :=
  ⟨H.1, fun X L w ι vs h1 hg h2 h3 => (H.2 X L w ι vs h1 hg h2 h3).mono fun e w' ⟨v, x, h', fr', ι', he, hQ, r⟩ => ⟨v, x, h', fr', ι', he, hq _ _ _ hQ, r⟩⟩

def enumT : Nat → List AV → List (Nat × AV)
  | _, [] => []
  | i, x :: l => (i, x) :: enumT (i + 1) l

theorem enumT_look : ∀ (l : List AV) (i t : Nat) (x : AV), look t (enumT i l) = some x → i ≤ t ∧ l[t - i]? = some x
  | [], i, t, x, h => by simp [enumT, look] at h
  | y :: l, i, t, x, h => by
    simp only [enumT, look_cons] at h
    split at h
    · rename_i e
      obtain rfl := Option.some.inj h
      subst e
      exact ⟨Nat.le_refl _, by simp⟩
    · rename_i e
      obtain ⟨h1, h2⟩ := enumT_look l (i + 1) t x h
      refine ⟨by omega, ?_⟩
      rw [show t - i = (t - (i + 1)) + 1 by omega]
      simpa using h2

/-- The end of a body. -/
def fin (P : Program) [Globs P] (fn : Func) (cx : Cx P) (Q : AV → List (Nat × Blk) → Nat → Prop) : Exit → Act → World → Prop := bodyPost P fn (Res cx.X cx.L cx.w0 Q)

theorem ASpec.enter {P : Program} [Globs P] {f : FuncId} {fn : Func} {c : Code} {args : List AV} {h : List (Nat × Blk)} {fr : Nat} {Q : AV → List (Nat × Blk) → Nat → Prop}
    (hf : P.funcs[f]? = some fn) (hname : (fn.name == "runtime.NumGoroutine") = false) (hb : fn.body = some c) (hl : args.length ≤ fn.ntmps)
    (H : ∀ cx : Cx P, cx.nt = fn.ntmps → cx.w0.fr = fr → AK P cx (fin P fn cx Q) [.code c] ⟨enumT 0 args, h, fr⟩) : ASpec P f args h fr Q := by
  refine ⟨enters_of hf hname hb, fun X L w ι vs h1 hg h2 h3 => calls_of_wp hf hb ?_⟩
  have := H ⟨X, L, ⟨w, ι, fr⟩, fn.ntmps, hg⟩ rfl rfl ι { tmps := vs.toArray ++ Array.replicate (fn.ntmps - vs.toArray.size) undef, defers := [] } w ⟨h1, fun t x ht => ?_, ?_, rfl⟩
  · refine Code.wp_mono ?_ this
    intro e a w hq
    cases e <;> exact hq
  · obtain ⟨_, h4⟩ := enumT_look args 0 t x ht
    rw [Nat.sub_zero] at h4
    have hlt : t < vs.length := h2 ▸ (List.getElem?_eq_some_iff.1 h4).1
    have hv : (vs.toArray ++ Array.replicate (fn.ntmps - vs.toArray.size) undef).getD t undef = vs[t] := by
      rw [Array.getD_eq_getD_getElem?, Array.getElem?_append_left (by simpa using hlt)]
      simp [hlt]
    rw [hv]
    exact h3 t x _ h4 (List.getElem?_eq_getElem hlt)
  · simp
    omega

section
variable {P : Program} [Globs P] {τ : Tab} {cx : Cx P} {Q : Exit → Act → World → Prop}

/-! ### The results -/

def resAV (τ : Tab) (S : St) : List ResultVar → Option (List AV)
  | [] => some []
  | .tmp t :: r => (match look t S.t, resAV τ S r with
    | some x, some l => some (x :: l)
    | _, _ => none)
  | .cell p T :: r => (match look p S.t, resAV τ S r with
    | some x, some l => (match loadAV τ S T x with
      | some z => some (z :: l)
      | none => none)
    | _, _ => none)

def tupAV : List AV → AV
  | [x] => x
  | l => .tup l

def rvS (tmps : Array Value) : ResultVar → Sem Value
  | .tmp t => pure (tmps.getD t undef)
  | .cell p t => do loadVar t (← asAddr (tmps.getD p undef))

theorem results_eq (fn : Func) (tmps : Array Value) : results fn tmps = (do
    let vs ← fn.results.mapM (rvS tmps)
    pure (if h : vs.size = 1 then vs[0] else .tuple vs)) := by
  unfold results
  congr 1

theorem res_run {X L : Nat → Prop} {w0 : W0} {w : World} {nt : Nat} {ι : Io} {S : St} {a : Act} (hτ : TabOK P τ) (H : Rel X L w0 nt ι S a w) {fn : Func} {l : List AV} (h : resAV τ S fn.results.toList = some l) :
    ∃ v, (results fn a.tmps).run P w = .ok v w ∧ RepV (rdOf L ι S.h w) ι (tupAV l) v := by
  have key : ∀ {rs : List ResultVar} {l : List AV}, resAV τ S rs = some l → ∃ vs : List Value, (rs.mapM (rvS a.tmps)).run P w = .ok vs w ∧ l.length = vs.length ∧
      ∀ (i : Nat) (c : AV) (v : Value), l[i]? = some c → vs[i]? = some v → RepV (rdOf L ι S.h w) ι c v := by
    intro rs
    induction rs with
    | nil => intro l h; simp [resAV] at h; subst h; exact ⟨[], rfl, rfl, by simp⟩
    | cons r rs ih =>
      intro l h
      have cons : ∀ {x : AV} {v : Value} {l' : List AV} {vs : List Value}, RepV (rdOf L ι S.h w) ι x v → (∀ (i : Nat) (c : AV) (v : Value), l'[i]? = some c → vs[i]? = some v → RepV (rdOf L ι S.h w) ι c v) →
          ∀ (i : Nat) (c : AV) (u : Value), (x :: l')[i]? = some c → (v :: vs)[i]? = some u → RepV (rdOf L ι S.h w) ι c u := by
        intro x v l' vs h1 h2 i c u h3 h4
        cases i with
        | zero => simp at h3 h4; subst h3; subst h4; exact h1
        | succ i => exact h2 i c u (by simpa using h3) (by simpa using h4)
      cases r with
      | tmp t =>
        simp only [resAV] at h
        split at h
        · rename_i x l' hx hl'
          obtain rfl := Option.some.inj h
          obtain ⟨vs, h1, h2, h3⟩ := ih hl'
          refine ⟨a.tmps.getD t undef :: vs, ?_, by simp [h2], cons (H.tm t x hx) h3⟩
          rw [List.mapM_cons]
          simp only [rvS, Sem.run_bind, Sem.run_pure, Result.andThen_ok]
          rw [h1]
          rfl
        · cases h
      | cell p T =>
        simp only [resAV] at h
        split at h
        · rename_i x l' hx hl'
          split at h
          · rename_i z hz
            obtain rfl := Option.some.inj h
            obtain ⟨vs, h1, h2, h3⟩ := ih hl'
            obtain ⟨u, hu1, hu2⟩ := load_run (P := P) hτ H.hr (H.tm p x hx) hz
            refine ⟨u :: vs, ?_, by simp [h2], cons hu2 h3⟩
            rw [List.mapM_cons]
            have hu3 : (do loadVar T (← asAddr (a.tmps.getD p undef)) : Sem Value).run P w = .ok u w := by
              generalize a.tmps.getD p undef = pv at hu1 ⊢
              cases pv with
              | pointer ad =>
                cases ad with
                | some ad => simpa [Instr.loadAt, Instr.sureAddr, asAddr] using hu1
                | none => simp [Instr.loadAt, Instr.sureAddr, stuck, Sem.run] at hu1
              | _ => simp [Instr.loadAt, Instr.sureAddr, stuck, Sem.run] at hu1
            simp only [rvS, Sem.run_bind, Sem.run_pure, Result.andThen_ok] at hu3 ⊢
            rw [hu3]
            simp only [Result.andThen_ok]
            rw [h1]
            rfl
          · cases h
        · cases h
  obtain ⟨vs, h1, h2, h3⟩ := key h
  have hm : (fn.results.mapM (rvS a.tmps)).run P w = .ok vs.toArray w := by
    rw [Array.mapM_eq_mapM_toList, Sem.run_map, h1]
    rfl
  refine ⟨if h : vs.toArray.size = 1 then vs.toArray[0] else .tuple vs.toArray, ?_, ?_⟩
  · rw [results_eq, Sem.run_bind, hm]
    simp only [Result.andThen_ok, Sem.run_pure]
  · match l, vs, h2, h3 with
    | [], [], _, h3 => exact .tup [] [] rfl h3
    | [x], [v], _, h3 => exact h3 0 _ _ rfl rfl
    | x :: y :: l, v :: u :: vs, h2, h3 => simp only [tupAV]; exact .tup _ _ h2 h3

/-- The end: the results, told in less, under other names. -/
theorem fin_of {fn : Func} {Qr : AV → List (Nat × Blk) → Nat → Prop} (hτ : TabOK P τ) {S : St} {l : List AV} (hres : resAV τ S fn.results.toList = some l) (r : Nat → Nat) {x : AV} {h' : List (Nat × Blk)} {fr' : Nat}
    (hx : tupAV l = x.ren r) (hlt : x.lt fr' = true) (hold : ∀ n, n < cx.w0.fr → n < fr' ∧ r n = n) (hk : keeps r fr' S.h h')
    (hinj : ∀ n m, (look n h').isSome = true → (look m h').isSome = true → r n = r m → n = m) (hQ : Qr x h' fr') :
    ∀ ι a w, Rel cx.X cx.L cx.w0 cx.nt ι S a w → fin P fn cx Qr .ret a w ∧ fin P fn cx Qr .normal a w := by
  intro ι a w H
  obtain ⟨v, hv, hrep⟩ := res_run hτ H hres
  obtain ⟨g1, g2, g3⟩ := H.hr.keep hold hk hinj
  have : a.defers = [] ∧ ∃ v, (results fn a.tmps).run P w = .ok v w ∧ Res cx.X cx.L cx.w0 Qr (.returned v) w :=
    ⟨H.df, v, hv, v, x, h', fr', _, rfl, hQ, ((hrep.ren_inv g3 x hlt hx).mono g2 (fun _ _ h => h)), g1⟩
  exact ⟨this, this⟩

/-- The end of a function that hands back data alone. -/
theorem AK.done {fn : Func} {Qr : AV → List (Nat × Blk) → Nat → Prop} (hτ : TabOK P τ) {S : St} {l : List AV} {x : Dat} (hres : resAV τ S fn.results.toList = some l) (hx : tupAV l = .d x) (h0 : cx.w0.fr = 0)
    (hQ : Qr (.d x) [] 0) {k : List KI} : AK P cx (fin P fn cx Qr) (.code .ret :: k) S :=
  AK.ret fun ι a w H => (fin_of (cx := cx) hτ hres id (x := .d x) (h' := []) (fr' := 0) hx rfl (fun n hn => by omega) (fun n B h => by simp [look] at h) (fun n m h => by simp [look] at h) hQ ι a w H).1

theorem AK.done_end {fn : Func} {Qr : AV → List (Nat × Blk) → Nat → Prop} (hτ : TabOK P τ) {S : St} {l : List AV} {x : Dat} (hres : resAV τ S fn.results.toList = some l) (hx : tupAV l = .d x) (h0 : cx.w0.fr = 0)
    (hQ : Qr (.d x) [] 0) : AK P cx (fin P fn cx Qr) [] S :=
  AK.end fun ι a w H => (fin_of (cx := cx) hτ hres id (x := .d x) (h' := []) (fr' := 0) hx rfl (fun n hn => by omega) (fun n B h => by simp [look] at h) (fun n m h => by simp [look] at h) hQ ι a w H).2


theorem AKp.done {fn : Func} {Qr : AV → List (Nat × Blk) → Nat → Prop} (hτ : TabOK P τ) {S : St} {l : List AV} {x : Dat} (hres : resAV τ S fn.results.toList = some l) (hx : tupAV l = .d x) (h0 : cx.w0.fr = 0)
    (hQ : Qr (.d x) [] 0) {k : List KI} : AKp P cx (fin P fn cx Qr) (.code .ret :: k, S) := AK.done hτ hres hx h0 hQ
theorem AKp.done_end {fn : Func} {Qr : AV → List (Nat × Blk) → Nat → Prop} (hτ : TabOK P τ) {S : St} {l : List AV} {x : Dat} (hres : resAV τ S fn.results.toList = some l) (hx : tupAV l = .d x) (h0 : cx.w0.fr = 0)
    (hQ : Qr (.d x) [] 0) : AKp P cx (fin P fn cx Qr) ([], S) := AK.done_end hτ hres hx h0 hQ

end
end Go.Ua
