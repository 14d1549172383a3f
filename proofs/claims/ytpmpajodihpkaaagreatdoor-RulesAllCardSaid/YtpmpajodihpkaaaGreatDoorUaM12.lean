/- The library of this claim and its walks, part 12, joined out of smaller texts. No statement stands in it. -/
import Derived.Test.YtpmpajodihpkaaaGreatDoorUaM11
import Derived.Shelf.Abstract
set_option linter.unusedSectionVars false
set_option linter.unusedSimpArgs false
set_option linter.unusedVariables false
namespace Go.Ua
open Go Go.Proofs
def Res (X L : Nat → Prop) (w0 : W0) (Q : AV → List (Nat × Blk) → Nat → Prop) (e : Ending) (w' : World) : Prop :=
 ∃ v x h' fr' ι', e = .returned v ∧ Q x h' fr' ∧ RepV (rdOf L ι' h' w') ι' x v ∧ HRel X L w0 ι' h' fr' w'
def ASpec (P : Program) [Globs P] (f : FuncId) (args : List AV) (h : List (Nat × Blk)) (fr : Nat) (Q : AV → List (Nat × Blk) → Nat → Prop) : Prop :=
 Enters P f ∧ ∀ (X L : Nat → Prop) (w : World) (ι : Io) (vs : List Value), HRel X L ⟨w, ι, fr⟩ ι h fr w → GOK P X w → args.length = vs.length →
   (∀ (i : Nat) (x : AV) (v : Value), args[i]? = some x → vs[i]? = some v → RepV (rdOf L ι h w) ι x v) →
   Calls P f vs.toArray w (Res X L ⟨w, ι, fr⟩ Q)
theorem ASpec.mono {P : Program} [Globs P] {f : FuncId} {args : List AV} {h : List (Nat × Blk)} {fr : Nat} {Q Q' : AV → List (Nat × Blk) → Nat → Prop} (H : ASpec P f args h fr Q) (hq : ∀ x h' fr', Q x h' fr' → Q' x h' fr') :
   ASpec P f args h fr Q' :=
 ⟨H.1, fun X L w ι vs h1 hg h2 h3 => (H.2 X L w ι vs h1 hg h2 h3).mono fun e w' ⟨v, x, h', fr', ι', he, hQ, r⟩ => ⟨v, x, h', fr', ι', he, hq _ _ _ hQ, r⟩⟩
def enumT : Nat → List AV → List (Nat × AV)
 | _, [] => []
 | i, x :: l => (i, x) :: enumT (i + 1) l
theorem enumT_look : ∀ (l : List AV) (i t : Nat) (x : AV), look t (enumT i l) = some x → i ≤ t ∧ l[t - i]? = some x
 | [], i, t, x, h => by simp [enumT, look] at h
 | y :: l, i, t, x, h => by
   simp only [enumT, look_cons] at h
   split at h
   · rename_i e
     obtain rfl := Option.some.inj h
     subst e
     exact ⟨Nat.le_refl _, by simp⟩
   · rename_i e
     obtain ⟨h1, h2⟩ := enumT_look l (i + 1) t x h
     refine ⟨by omega, ?_⟩
     rw [show t - i = (t - (i + 1)) + 1 by omega]
     simpa using h2
def fin (P : Program) [Globs P] (fn : Func) (cx : Cx P) (Q : AV → List (Nat × Blk) → Nat → Prop) : Exit → Act → World → Prop := bodyPost P fn (Res cx.X cx.L cx.w0 Q)
theorem ASpec.enter {P : Program} [Globs P] {f : FuncId} {fn : Func} {c : Code} {args : List AV} {h : List (Nat × Blk)} {fr : Nat} {Q : AV → List (Nat × Blk) → Nat → Prop}
   (hf : P.funcs[f]? = some fn) (hname : (fn.name == "runtime.NumGoroutine") = false) (hb : fn.body = some c) (hl : args.length ≤ fn.ntmps)
   (H : ∀ cx : Cx P, cx.nt = fn.ntmps → cx.w0.fr = fr → AK P cx (fin P fn cx Q) [.code c] ⟨enumT 0 args, h, fr⟩) : ASpec P f args h fr Q := by
 refine ⟨enters_of hf hname hb, fun X L w ι vs h1 hg h2 h3 => calls_of_wp hf hb ?_⟩
 have := H ⟨X, L, ⟨w, ι, fr⟩, fn.ntmps, hg⟩ rfl rfl ι { tmps := vs.toArray ++ Array.replicate (fn.ntmps - vs.toArray.size) undef, defers := [] } w ⟨h1, fun t x ht => ?_, ?_, rfl⟩
 · refine Code.wp_mono ?_ this
   intro e a w hq
   cases e <;> exact hq
 · obtain ⟨_, h4⟩ := enumT_look args 0 t x ht
   rw [Nat.sub_zero] at h4
   have hlt : t < vs.length := h2 ▸ (List.getElem?_eq_some_iff.1 h4).1
   have hv : (vs.toArray ++ Array.replicate (fn.ntmps - vs.toArray.size) undef).getD t undef = vs[t] := by
     rw [Array.getD_eq_getD_getElem?, Array.getElem?_append_left (by simpa using hlt)]
     simp [hlt]
   rw [hv]
   exact h3 t x _ h4 (List.getElem?_eq_getElem hlt)
 · simp
   omega
section
variable {P : Program} [Globs P] {τ : Tab} {cx : Cx P} {Q : Exit → Act → World → Prop}
def resAV (τ : Tab) (S : St) : List ResultVar → Option (List AV)
 | [] => some []
 | .tmp t :: r => (match look t S.t, resAV τ S r with
   | some x, some l => some (x :: l)
   | _, _ => none)
 | .cell p T :: r => (match look p S.t, resAV τ S r with
   | some x, some l => (match loadAV τ S T x with
     | some z => some (z :: l)
     | none => none)
   | _, _ => none)
def tupAV : List AV → AV
 | [x] => x
 | l => .tup l
def rvS (tmps : Array Value) : ResultVar → Sem Value
 | .tmp t => pure (tmps.getD t undef)
 | .cell p t => do loadVar t (← asAddr (tmps.getD p undef))
theorem results_eq (fn : Func) (tmps : Array Value) : results fn tmps = (do
   let vs ← fn.results.mapM (rvS tmps)
   pure (if h : vs.size = 1 then vs[0] else .tuple vs)) := by
 unfold results
 congr 1
theorem res_run {X L : Nat → Prop} {w0 : W0} {w : World} {nt : Nat} {ι : Io} {S : St} {a : Act} (hτ : TabOK P τ) (H : Rel X L w0 nt ι S a w) {fn : Func} {l : List AV} (h : resAV τ S fn.results.toList = some l) :
   ∃ v, (results fn a.tmps).run P w = .ok v w ∧ RepV (rdOf L ι S.h w) ι (tupAV l) v := by
 have key : ∀ {rs : List ResultVar} {l : List AV}, resAV τ S rs = some l → ∃ vs : List Value, (rs.mapM (rvS a.tmps)).run P w = .ok vs w ∧ l.length = vs.length ∧
     ∀ (i : Nat) (c : AV) (v : Value), l[i]? = some c → vs[i]? = some v → RepV (rdOf L ι S.h w) ι c v := by
   intro rs
   induction rs with
   | nil => intro l h; simp [resAV] at h; subst h; exact ⟨[], rfl, rfl, by simp⟩
   | cons r rs ih =>
     intro l h
     have cons : ∀ {x : AV} {v : Value} {l' : List AV} {vs : List Value}, RepV (rdOf L ι S.h w) ι x v → (∀ (i : Nat) (c : AV) (v : Value), l'[i]? = some c → vs[i]? = some v → RepV (rdOf L ι S.h w) ι c v) →
         ∀ (i : Nat) (c : AV) (u : Value), (x :: l')[i]? = some c → (v :: vs)[i]? = some u → RepV (rdOf L ι S.h w) ι c u := by
       intro x v l' vs h1 h2 i c u h3 h4
       cases i with
       | zero => simp at h3 h4; subst h3; subst h4; exact h1
       | succ i => exact h2 i c u (by simpa using h3) (by simpa using h4)
     cases r with
     | tmp t =>
       simp only [resAV] at h
       split at h
       · rename_i x l' hx hl'
         obtain rfl := Option.some.inj h
         obtain ⟨vs, h1, h2, h3⟩ := ih hl'
         refine ⟨a.tmps.getD t undef :: vs, ?_, by simp [h2], cons (H.tm t x hx) h3⟩
         rw [List.mapM_cons]
         simp only [rvS, Sem.run_bind, Sem.run_pure, Result.andThen_ok]
         rw [h1]
         rfl
       · cases h
     | cell p T =>
       simp only [resAV] at h
       split at h
       · rename_i x l' hx hl'
         split at h
         · rename_i z hz
           obtain rfl := Option.some.inj h
           obtain ⟨vs, h1, h2, h3⟩ := ih hl'
           obtain ⟨u, hu1, hu2⟩ := load_run (P := P) hτ H.hr (H.tm p x hx) hz
           refine ⟨u :: vs, ?_, by simp [h2], cons hu2 h3⟩
           rw [List.mapM_cons]
           have hu3 : (do loadVar T (← asAddr (a.tmps.getD p undef)) : Sem Value).run P w = .ok u w := by
             generalize a.tmps.getD p undef = pv at hu1 ⊢
             cases pv with
             | pointer ad =>
               cases ad with
               | some ad => simpa [Instr.loadAt, Instr.sureAddr, asAddr] using hu1
               | none => simp [Instr.loadAt, Instr.sureAddr, stuck, Sem.run] at hu1
             | _ => simp [Instr.loadAt, Instr.sureAddr, stuck, Sem.run] at hu1
           simp only [rvS, Sem.run_bind, Sem.run_pure, Result.andThen_ok] at hu3 ⊢
           rw [hu3]
           simp only [Result.andThen_ok]
           rw [h1]
           rfl
         · cases h
       · cases h
 obtain ⟨vs, h1, h2, h3⟩ := key h
 have hm : (fn.results.mapM (rvS a.tmps)).run P w = .ok vs.toArray w := by
   rw [Array.mapM_eq_mapM_toList, Sem.run_map, h1]
   rfl
 refine ⟨if h : vs.toArray.size = 1 then vs.toArray[0] else .tuple vs.toArray, ?_, ?_⟩
 · rw [results_eq, Sem.run_bind, hm]
   simp only [Result.andThen_ok, Sem.run_pure]
 · match l, vs, h2, h3 with
   | [], [], _, h3 => exact .tup [] [] rfl h3
   | [x], [v], _, h3 => exact h3 0 _ _ rfl rfl
   | x :: y :: l, v :: u :: vs, h2, h3 => simp only [tupAV]; exact .tup _ _ h2 h3
theorem fin_of {fn : Func} {Qr : AV → List (Nat × Blk) → Nat → Prop} (hτ : TabOK P τ) {S : St} {l : List AV} (hres : resAV τ S fn.results.toList = some l) (r : Nat → Nat) {x : AV} {h' : List (Nat × Blk)} {fr' : Nat}
   (hx : tupAV l = x.ren r) (hlt : x.lt fr' = true) (hold : ∀ n, n < cx.w0.fr → n < fr' ∧ r n = n) (hk : keeps r fr' S.h h')
   (hinj : ∀ n m, (look n h').isSome = true → (look m h').isSome = true → r n = r m → n = m) (hQ : Qr x h' fr') :
   ∀ ι a w, Rel cx.X cx.L cx.w0 cx.nt ι S a w → fin P fn cx Qr .ret a w ∧ fin P fn cx Qr .normal a w := by
 intro ι a w H
 obtain ⟨v, hv, hrep⟩ := res_run hτ H hres
 obtain ⟨g1, g2, g3⟩ := H.hr.keep hold hk hinj
 have : a.defers = [] ∧ ∃ v, (results fn a.tmps).run P w = .ok v w ∧ Res cx.X cx.L cx.w0 Qr (.returned v) w :=
   ⟨H.df, v, hv, v, x, h', fr', _, rfl, hQ, ((hrep.ren_inv g3 x hlt hx).mono g2 (fun _ _ h => h)), g1⟩
 exact ⟨this, this⟩
theorem AK.done {fn : Func} {Qr : AV → List (Nat × Blk) → Nat → Prop} (hτ : TabOK P τ) {S : St} {l : List AV} {x : Dat} (hres : resAV τ S fn.results.toList = some l) (hx : tupAV l = .d x) (h0 : cx.w0.fr = 0)
   (hQ : Qr (.d x) [] 0) {k : List KI} : AK P cx (fin P fn cx Qr) (.code .ret :: k) S :=
 AK.ret fun ι a w H => (fin_of (cx := cx) hτ hres id (x := .d x) (h' := []) (fr' := 0) hx rfl (fun n hn => by omega) (fun n B h => by simp [look] at h) (fun n m h => by simp [look] at h) hQ ι a w H).1
theorem AKp.done {fn : Func} {Qr : AV → List (Nat × Blk) → Nat → Prop} (hτ : TabOK P τ) {S : St} {l : List AV} {x : Dat} (hres : resAV τ S fn.results.toList = some l) (hx : tupAV l = .d x) (h0 : cx.w0.fr = 0)
   (hQ : Qr (.d x) [] 0) {k : List KI} : AKp P cx (fin P fn cx Qr) (.code .ret :: k, S) := AK.done hτ hres hx h0 hQ
end
end Go.Ua
namespace Go.Ua
open Go Go.Proofs
def fargs : AV → Option (FuncId × List AV × List AV)
 | .d (.s (.fn g)) => some (g, [], [])
 | .fn (.func g) fi ca => some (g, fi, ca)
 | _ => none
def app3 : List AV → List AV → List AV → List AV
 | [], xs, [] => xs
 | fi, xs, ca => fi ++ (xs ++ ca)
def shift (σ : Nat → Nat) (fr base n : Nat) : Nat := match Nat.blt n fr with
 | true => σ n
 | false => base + (n - fr)
def renH (r : Nat → Nat) : List (Nat × Blk) → List (Nat × Blk)
 | [] => []
 | (n, B) :: l => (r n, B.ren r) :: renH r l
def dropN (σ : Nat → Nat) : Nat → List (Nat × Blk) → List (Nat × Blk)
 | 0, h => h
 | n + 1, h => del (σ n) (dropN σ n h)
def appH : List (Nat × Blk) → List (Nat × Blk) → List (Nat × Blk)
 | [], b => b
 | x :: a, b => x :: appH a b
def St.after (S : St) (σ : Nat → Nat) (fr : Nat) (h' : List (Nat × Blk)) (fr' : Nat) : St :=
 ⟨S.t, appH (renH (shift σ fr S.fr) h') (dropN σ fr S.h), S.fr + (fr' - fr)⟩
theorem look_app (n : Nat) : ∀ (a b : List (Nat × Blk)), look n (appH a b) = match look n a with
   | some B => some B
   | none => look n b
 | [], b => rfl
 | p :: a, b => by
   simp only [appH, look_cons, look_app n a b]
   split <;> rfl
theorem look_dropN (σ : Nat → Nat) : ∀ (m n : Nat) (h : List (Nat × Blk)) (B : Blk), look n (dropN σ m h) = some B → look n h = some B ∧ ∀ i, i < m → σ i ≠ n
 | 0, n, h, B, hl => ⟨hl, fun i hi => absurd hi (by omega)⟩
 | m + 1, n, h, B, hl => by
   simp only [dropN, look_del] at hl
   split at hl
   · cases hl
   · rename_i hne
     obtain ⟨h1, h2⟩ := look_dropN σ m n h B hl
     refine ⟨h1, fun i hi e => ?_⟩
     rcases Nat.lt_or_ge i m with h3 | h3
     · exact h2 i h3 e
     · obtain rfl : i = m := by omega
       exact hne e.symm
theorem look_renH {r : Nat → Nat} (hr : ∀ i j, r i = r j → i = j) (n : Nat) : ∀ (h : List (Nat × Blk)) (B : Blk), look n (renH r h) = some B → ∃ m B0, r m = n ∧ look m h = some B0 ∧ B = B0.ren r
 | [], B, hl => by simp [renH, look] at hl
 | (m, B0) :: h, B, hl => by
   simp only [renH, look_cons] at hl
   split at hl
   · rename_i e
     obtain rfl := Option.some.inj hl
     exact ⟨m, B0, e, by rw [look_cons, if_pos rfl], rfl⟩
   · rename_i e
     obtain ⟨m', B', h1, h2, h3⟩ := look_renH hr n h B hl
     refine ⟨m', B', h1, ?_, h3⟩
     rw [look_cons, if_neg (fun e' => e (by have e2 : m = m' := e'; rw [e2]; exact h1))]
     exact h2
section
variable {P : Program} [Globs P] {τ : Tab} {cx : Cx P} {Q : Exit → Act → World → Prop}
theorem call_enters {a : Act} {w : World} {o : Oper} {c : Call} {fo : Operand} {g : FuncId} {fi ca : List Value} (ho : o.op = .call c) (hc : c.callee = .value fo) (he : Enters P g)
   (hf : a.eval fo = .func (.func g) fi.toArray ca.toArray) : (execOp a.eval o).run P w = .ok (.enter g (fi ++ (c.args.toList.map a.eval ++ ca)).toArray) w := by
 have e : c.args.map a.eval = (c.args.toList.map a.eval).toArray := by apply Array.ext'; simp
 simp only [execOp, ho, resolve, hc, hf, Deferred.ofValue, Sem.run_bind, Sem.run_pure, Result.andThen_ok, invoke, e]
 rw [he]
 congr 2
 apply Array.ext'
 simp
theorem enter_wp {K : Act → World → Prop} {ι : Io} {a : Act} {w : World} {S : St} {o : Oper} {g : FuncId} {args : List AV} {h : List (Nat × Blk)} {fr : Nat} {Qc : AV → List (Nat × Blk) → Nat → Prop}
   (H : Rel cx.X cx.L cx.w0 cx.nt ι S a w)
   (spec : ASpec P g args h fr Qc) (σ : Nat → Nat) (hd : ∀ d, o.dst = some d → d < cx.nt) {vs : List Value} (hent : (execOp a.eval o).run P w = .ok (.enter g vs.toArray) w) (hvl : args.length = vs.length)
   (hvr : ∀ (i : Nat) (x : AV) (v : Value), (rens σ args)[i]? = some x → vs[i]? = some v → RepV (rdOf cx.L ι S.h w) ι x v) (hlt : lts fr args = true)
   (hall : ∀ n, n < fr → (look n h).isSome = true) (hh : ∀ n B, look n h = some B → n < fr ∧ B.lt fr = true ∧ look (σ n) S.h = some (B.ren σ))
   (hinj : ∀ n m, n < fr → m < fr → σ n = σ m → n = m)
   (next : ∀ x h' fr', Qc x h' fr' → ∀ ι' a' w', Rel cx.X cx.L cx.w0 cx.nt ι' ((S.after σ fr h' fr').put o.dst (x.ren (shift σ fr S.fr))) a' w' → K a' w') :
   o.wp P a w K Q := by
 unfold Oper.wp
 rw [hent, Oper.upon_enter]
 let ιc : Io := fun n => if n < fr then ι (σ n) else none
 let Lc : Nat → Prop := fun b => cx.L b ∨ ∃ n c l, (look n S.h).isSome = true ∧ ι n = some (.blk b c l) ∧ ∀ m, m < fr → σ m ≠ n
 let Xc : Nat → Prop := fun b => ∃ m c l, m < fr ∧ ι (σ m) = some (.blk b c l)
 have hsome : ∀ m, m < fr → (look (σ m) S.h).isSome = true := by
   intro m hm
   obtain ⟨B, hB⟩ := Option.isSome_iff_exists.1 (hall m hm)
   rw [(hh m B hB).2.2]; rfl
 have hιc : ∀ n, n < fr → ∀ p, ι (σ n) = some p → ιc n = some p := by
   intro n hn p hp
   show (if n < fr then ι (σ n) else none) = some p
   rw [if_pos hn]; exact hp
 have hlt2 : ∀ n b c l, (look n S.h).isSome = true → ι n = some (.blk b c l) → b < w.heap.size := by
   intro n b c l h1 h2
   obtain ⟨B', hB'⟩ := Option.isSome_iff_exists.1 h1
   exact (H.hr.hp n B' hB').lt h2
 have hRc : ∀ b o v, rdOf cx.L ι S.h w b o v → rdOf Lc ιc h w b o v := by
   intro b o v ⟨h1, h2⟩
   refine ⟨?_, h2⟩
   rintro ((h3 | ⟨n, c, l, h3, h4, _⟩) | ⟨n, c, l, h3, h4⟩)
   · exact h1 (.inl h3)
   · exact h1 (.inr ⟨n, c, l, h3, h4⟩)
   · obtain ⟨B, hB⟩ := Option.isSome_iff_exists.1 h3
     have hn := (hh n B hB).1
     have h5 : ι (σ n) = some (.blk b c l) := by
       have : (if n < fr then ι (σ n) else none) = some (.blk b c l) := h4
       rwa [if_pos hn] at this
     exact h1 (.inr ⟨σ n, c, l, hsome n hn, h5⟩)
 have Hc : HRel Xc Lc ⟨w, ιc, fr⟩ ιc h fr w := by
   have blk : ∀ n b c l, (look n h).isSome = true → ιc n = some (.blk b c l) → n < fr ∧ ι (σ n) = some (.blk b c l) := by
     intro n b c l h3 h4
     obtain ⟨B, hB⟩ := Option.isSome_iff_exists.1 h3
     have hn := (hh n B hB).1
     have : (if n < fr then ι (σ n) else none) = some (.blk b c l) := h4
     rw [if_pos hn] at this
     exact ⟨hn, this⟩
   refine ⟨?_, ?_, ?_, ?_, ?_, Kept.refl _ _, fun n p _ hp => hp⟩
   · intro n B hB
     obtain ⟨h1, h2, h3⟩ := hh n B hB
     exact ((H.hr.hp _ _ h3).ren_inv h1 hιc h2).mono hRc (fun _ _ h => h) (fun _ _ _ _ => rfl)
   · intro n m b c l c' l' h1 h2 h3 h4
     obtain ⟨h5, h6⟩ := blk n b c l h1 h3
     obtain ⟨h7, h8⟩ := blk m b c' l' h2 h4
     exact hinj n m h5 h7 (H.hr.inj _ _ _ _ _ _ _ (hsome n h5) (hsome m h7) h6 h8)
   · intro n b c l h1 h3
     obtain ⟨h5, h6⟩ := blk n b c l h1 h3
     refine ⟨?_, .inl ⟨n, c, l, h5, h6⟩⟩
     rintro (h7 | ⟨n', c', l', h7, h8, h9⟩)
     · exact (H.hr.out _ _ _ _ (hsome n h5) h6).1 h7
     · exact h9 n h5 (H.hr.inj _ _ _ _ _ _ _ (hsome n h5) h7 h6 h8)
   · intro n hn
     show (if n < fr then ι (σ n) else none) = none
     rw [if_neg (by omega)]
   · rintro b (h1 | ⟨n, c, l, h1, h2, _⟩)
     · exact Nat.lt_of_lt_of_le (H.hr.lb b h1) H.hr.kp.size
     · exact hlt2 n b c l h1 h2
 have hgc : GOK P Xc w := by
   intro b pg hG
   obtain ⟨h1, cs, tg, fz, hpg, h2⟩ := cx.gok b pg hG
   have hb0 : b < cx.w0.w.heap.size := (Array.getElem?_eq_some_iff.1 h2).1
   refine ⟨?_, ?_⟩
   · rintro ⟨m, c', l', hm, hi⟩
     rcases (H.hr.out (σ m) b c' l' (hsome m hm) hi).2 with h3 | h3
     · exact h1 h3
     · omega
   · exact ⟨cs, tg, fz, hpg, by rw [H.hr.kp.block b hb0 h1]; exact h2⟩
 refine (spec.2 Xc Lc w ιc _ Hc hgc hvl ?_).mono ?_
 · intro i x v hx hv
   exact ((hvr i (x.ren σ) v (by rw [rens_get, hx]; rfl) hv).ren_inv hιc x (lts_get fr args i x hlt hx) rfl).mono hRc (fun _ _ h => h)
 rintro e w' ⟨v, x, h', fr', ι', rfl, hQ, hrep, H'⟩
 simp only
 let r' := shift σ fr S.fr
 let ιn : Io := fun n => if n < S.fr then ι n else ι' (n - S.fr + fr)
 have hιlt : ∀ n p, ι n = some p → n < S.fr := by
   intro n p hp
   rcases Nat.lt_or_ge n S.fr with h1 | h1
   · exact h1
   · rw [H.hr.fresh n h1] at hp; cases hp
 have hιn : ∀ n p, ι n = some p → ιn n = some p := by
   intro n p hp
   show (if n < S.fr then ι n else ι' (n - S.fr + fr)) = some p
   rw [if_pos (hιlt n p hp)]; exact hp
 have hσloc : ∀ m, m < fr → ∃ p, ι (σ m) = some p := by
   intro m hm
   obtain ⟨B, hB⟩ := Option.isSome_iff_exists.1 (hsome m hm)
   cases H.hr.hp _ _ hB with
   | cs _ _ _ _ _ _ hi => exact ⟨_, hi⟩
   | ds0 _ _ hi => exact ⟨_, hi⟩
   | ds _ _ _ _ _ _ hi => exact ⟨_, hi⟩
   | xs _ _ _ _ _ _ _ _ hi => exact ⟨_, hi⟩
   | xs0 _ _ _ _ hi => exact ⟨_, hi⟩
   | mp _ _ _ _ _ _ hi => exact ⟨_, hi⟩
 have hσlt : ∀ m, m < fr → σ m < S.fr := fun m hm => by obtain ⟨p, hp⟩ := hσloc m hm; exact hιlt _ p hp
 have hσι : ∀ m, m < fr → ι' m = ι (σ m) := by
   intro m hm
   obtain ⟨p, hp⟩ := hσloc m hm
   rw [hp]
   exact H'.old m p hm (hιc m hm p hp)
 have hr1 : ∀ n, n < fr → r' n = σ n := by
   intro n hn
   show shift σ fr S.fr n = σ n
   unfold shift
   have : Nat.blt n fr = true := by simp only [Nat.blt, Nat.ble_eq]; exact hn
   rw [this]
 have hr2 : ∀ n, fr ≤ n → r' n = S.fr + (n - fr) := by
   intro n hn
   show shift σ fr S.fr n = _
   unfold shift
   have : Nat.blt n fr = false := by
     cases hb : Nat.blt n fr
     · rfl
     · exact absurd (blt_lt hb) (by omega)
   rw [this]
 have hrinj : ∀ i j, r' i = r' j → i = j := by
   intro i j hij
   rcases Nat.lt_or_ge i fr with h1 | h1 <;> rcases Nat.lt_or_ge j fr with h2 | h2
   · rw [hr1 i h1, hr1 j h2] at hij; exact hinj i j h1 h2 hij
   · rw [hr1 i h1, hr2 j h2] at hij; have := hσlt i h1; omega
   · rw [hr2 i h1, hr1 j h2] at hij; have := hσlt j h2; omega
   · rw [hr2 i h1, hr2 j h2] at hij; omega
 have hι' : ∀ n p, ι' n = some p → ιn (r' n) = some p := by
   intro n p hp
   rcases Nat.lt_or_ge n fr with h1 | h1
   · rw [hr1 n h1]
     rw [hσι n h1] at hp
     exact hιn _ p hp
   · rw [hr2 n h1]
     show (if S.fr + (n - fr) < S.fr then ι (S.fr + (n - fr)) else ι' (S.fr + (n - fr) - S.fr + fr)) = some p
     rw [if_neg (by omega), show S.fr + (n - fr) - S.fr + fr = n by omega]
     exact hp
 let hn := appH (renH r' h') (dropN σ fr S.h)
 have names : ∀ n B, look n hn = some B → (∃ m B0, r' m = n ∧ look m h' = some B0 ∧ B = B0.ren r') ∨ (look n S.h = some B ∧ ∀ i, i < fr → σ i ≠ n) := by
   intro n B hB
   have : look n (appH (renH r' h') (dropN σ fr S.h)) = some B := hB
   rw [look_app] at this
   split at this
   · rename_i B' hB'
     obtain rfl := Option.some.inj this
     exact .inl (look_renH hrinj n h' _ hB')
   · exact .inr (look_dropN σ fr n S.h B this)
 have back : ∀ n b c l, (look n hn).isSome = true → ιn n = some (.blk b c l) →
     (∃ m, r' m = n ∧ (look m h').isSome = true ∧ ι' m = some (.blk b c l)) ∨ ((look n S.h).isSome = true ∧ (∀ i, i < fr → σ i ≠ n) ∧ ι n = some (.blk b c l)) := by
   intro n b c l h1 h2
   obtain ⟨B, hB⟩ := Option.isSome_iff_exists.1 h1
   rcases names n B hB with ⟨m, B0, h3, h4, _⟩ | ⟨h3, h4⟩
   · refine .inl ⟨m, h3, by rw [h4]; rfl, ?_⟩
     cases H'.hp m B0 h4 with
     | cs _ _ _ _ _ _ hi => have := hι' m _ hi; rw [h3, h2] at this; rw [hi]; exact this.symm
     | ds0 _ _ hi => have := hι' m _ hi; rw [h3, h2] at this; cases this
     | ds _ _ _ _ _ _ hi => have := hι' m _ hi; rw [h3, h2] at this; rw [hi]; exact this.symm
     | xs _ _ _ _ _ _ _ _ hi => have := hι' m _ hi; rw [h3, h2] at this; rw [hi]; exact this.symm
     | xs0 _ _ _ _ hi => have := hι' m _ hi; rw [h3, h2] at this; cases this
     | mp _ _ _ _ _ _ hi => have := hι' m _ hi; rw [h3, h2] at this; rw [hi]; exact this.symm
   · refine .inr ⟨by rw [h3]; rfl, h4, ?_⟩
     cases H.hr.hp n B h3 with
     | cs _ _ _ _ _ _ hi => have := hιn n _ hi; rw [h2] at this; rw [hi]; exact this.symm
     | ds0 _ _ hi => have := hιn n _ hi; rw [h2] at this; cases this
     | ds _ _ _ _ _ _ hi => have := hιn n _ hi; rw [h2] at this; rw [hi]; exact this.symm
     | xs _ _ _ _ _ _ _ _ hi => have := hιn n _ hi; rw [h2] at this; rw [hi]; exact this.symm
     | xs0 _ _ _ _ hi => have := hιn n _ hi; rw [h2] at this; cases this
     | mp _ _ _ _ _ _ hi => have := hιn n _ hi; rw [h2] at this; rw [hi]; exact this.symm
 have hX : ∀ b, Xc b → bad cx.L ι S.h b := fun b ⟨m, c, l, hm, hi⟩ => .inr ⟨σ m, c, l, hsome m hm, hi⟩
 have hs : ∀ b, b < w.heap.size → ¬ bad cx.L ι S.h b → w'.heap[b]? = w.heap[b]? ∧ ¬ bad cx.L ιn hn b := by
   intro b hb hnb
   refine ⟨H'.kp.block b hb (fun hx => hnb (hX b hx)), ?_⟩
   rintro (h1 | ⟨n, c, l, h1, h2⟩)
   · exact hnb (.inl h1)
   · rcases back n b c l h1 h2 with ⟨m, _, h4, h5⟩ | ⟨h3, _, h4⟩
     · rcases (H'.out m b c l h4 h5).2 with h6 | h6
       · exact hnb (hX b h6)
       · exact absurd hb (by have : w.heap.size ≤ b := h6; omega)
     · exact hnb (.inr ⟨n, c, l, h3, h4⟩)
 have hR' : ∀ b o v, rdOf Lc ι' h' w' b o v → rdOf cx.L ιn hn w' b o v := by
   intro b o v ⟨h1, h2⟩
   refine ⟨?_, h2⟩
   rintro (h3 | ⟨n, c, l, h3, h4⟩)
   · exact h1 (.inl (.inl h3))
   · rcases back n b c l h3 h4 with ⟨m, _, h5, h6⟩ | ⟨h5, h6, h7⟩
     · exact h1 (.inr ⟨m, c, l, h5, h6⟩)
     · exact h1 (.inl (.inr ⟨n, c, l, h5, h7, h6⟩))
 have hinX : ∀ b, Xc b → cx.X b ∨ cx.w0.w.heap.size ≤ b := fun b ⟨m, c, l, hm, hi⟩ => (H.hr.out _ _ _ _ (hsome m hm) hi).2
 have HN : HRel cx.X cx.L cx.w0 ιn hn (S.fr + (fr' - fr)) w' := by
   refine H.hr.step (Y := Xc) hιn hs ?_ ?_ ?_ ?_ ⟨H'.kp.os, H'.kp.tape, H'.kp.output, H'.kp.size, H'.kp.block⟩ hinX
   · intro n B hB
     rcases names n B hB with ⟨m, B0, h3, h4, h5⟩ | ⟨h3, h4⟩
     · right
       subst h3
       subst h5
       exact ((H'.hp m B0 h4).ren_to hι').mono hR' (fun _ _ h => h) (fun _ _ _ _ => rfl)
     · refine .inl ⟨h3, fun b c l hi => H'.kp.block b (hlt2 n b c l (by rw [h3]; rfl) hi) ?_⟩
       rintro ⟨m, c', l', hm, hi'⟩
       exact h4 m hm (H.hr.inj _ _ _ _ _ _ _ (hsome m hm) (by rw [h3]; rfl) hi' hi)
   · intro n m b c l c' l' h1 h2 h3 h4
     have cross : ∀ m n c l c' l', (look m h').isSome = true → ι' m = some (.blk b c l) → (look n S.h).isSome = true → (∀ i, i < fr → σ i ≠ n) → ι n = some (.blk b c' l') → False := by
       intro m n c l c' l' g1 g2 g3 g4 g5
       exact (H'.out m b c l g1 g2).1 (.inr ⟨n, c', l', g3, g5, g4⟩)
     rcases back n b c l h1 h3 with ⟨n1, h5, h6, h7⟩ | ⟨h5, h6, h7⟩ <;> rcases back m b c' l' h2 h4 with ⟨m1, h8, h9, h10⟩ | ⟨h8, h9, h10⟩
     · rw [← h5, ← h8, H'.inj n1 m1 b c l c' l' h6 h9 h7 h10]
     · exact (cross n1 m c l c' l' h6 h7 h8 h9 h10).elim
     · exact (cross m1 n c' l' c l h9 h10 h5 h6 h7).elim
     · exact H.hr.inj _ _ _ _ _ _ _ h5 h8 h7 h10
   · intro n b c l h1 h2
     rcases back n b c l h1 h2 with ⟨m, h3, h4, h5⟩ | ⟨h3, h4, h5⟩
     · obtain ⟨h6, h7⟩ := H'.out m b c l h4 h5
       refine ⟨fun hL => h6 (.inl hL), ?_⟩
       rcases h7 with h7 | h7
       · exact hinX b h7
       · right
         have h8 : w.heap.size ≤ b := h7
         exact Nat.le_trans H.hr.kp.size h8
     · exact H.hr.out _ _ _ _ h3 h5
   · intro n hn'
     show (if n < S.fr then ι n else ι' (n - S.fr + fr)) = none
     rw [if_neg (by omega)]
     exact H'.fresh _ (by omega)
 have hrel : Rel cx.X cx.L cx.w0 cx.nt ιn (S.after σ fr h' fr') a w' := Rel.world H HN hιn hs
 exact next x h' fr' hQ ιn _ w' (hrel.put hd ((hrep.ren_to hι').mono hR' (fun _ _ h => h)))
theorem call_wp {K : Act → World → Prop} {ι : Io} {a : Act} {w : World} {S : St} {o : Oper} {c : Call} {fo : Operand} {g : FuncId} {fi ca args : List AV} {h : List (Nat × Blk)} {fr : Nat} {Qc : AV → List (Nat × Blk) → Nat → Prop}
   (H : Rel cx.X cx.L cx.w0 cx.nt ι S a w)
   (spec : ASpec P g args h fr Qc) (σ : Nat → Nat) (ho : o.op = .call c) (hc : c.callee = .value fo) (hd : ∀ d, o.dst = some d → d < cx.nt)
   (hf : fargs (evl S fo) = some (g, fi, ca)) (hargs : app3 fi (evls S c.args.toList) ca = rens σ args) (hlt : lts fr args = true)
   (hall : ∀ n, n < fr → (look n h).isSome = true) (hh : ∀ n B, look n h = some B → n < fr ∧ B.lt fr = true ∧ look (σ n) S.h = some (B.ren σ))
   (hinj : ∀ n m, n < fr → m < fr → σ n = σ m → n = m)
   (next : ∀ x h' fr', Qc x h' fr' → ∀ ι' a' w', Rel cx.X cx.L cx.w0 cx.nt ι' ((S.after σ fr h' fr').put o.dst (x.ren (shift σ fr S.fr))) a' w' → K a' w') :
   o.wp P a w K Q := by
 obtain ⟨vfi, vca, hfv, hfl, hcl, hfr, hcr⟩ : ∃ vfi vca : List Value, a.eval fo = .func (.func g) vfi.toArray vca.toArray ∧ fi.length = vfi.length ∧ ca.length = vca.length ∧
     (∀ (i : Nat) (x : AV) (v : Value), fi[i]? = some x → vfi[i]? = some v → RepV (rdOf cx.L ι S.h w) ι x v) ∧
     (∀ (i : Nat) (x : AV) (v : Value), ca[i]? = some x → vca[i]? = some v → RepV (rdOf cx.L ι S.h w) ι x v) := by
   have hfo := H.evl fo
   unfold fargs at hf
   split at hf
   · rename_i g' hgv
     simp only [Option.some.injEq, Prod.mk.injEq] at hf
     obtain ⟨rfl, rfl, rfl⟩ := hf
     rw [hgv] at hfo
     exact ⟨[], [], rep_s hfo, rfl, rfl, by simp, by simp⟩
   · rename_i g' fi' ca' hgv
     simp only [Option.some.injEq, Prod.mk.injEq] at hf
     obtain ⟨rfl, rfl, rfl⟩ := hf
     rw [hgv] at hfo
     generalize a.eval fo = fv at hfo ⊢
     cases hfo with
     | fn _ _ _ vs ws h1 h2 h3 h4 => exact ⟨vs, ws, rfl, h1, h2, h3, h4⟩
   · cases hf
 obtain ⟨hxl, hxr⟩ := evls_rep H c.args.toList
 have happ : ∀ fi xs ca : List AV, app3 fi xs ca = fi ++ (xs ++ ca) := by
   intro fi xs ca
   unfold app3
   split <;> simp
 rw [happ] at hargs
 have hvl : args.length = (vfi ++ (c.args.toList.map a.eval ++ vca)).length := by
   have := congrArg List.length hargs
   rw [rens_length] at this
   rw [← this]
   simp only [List.length_append, hfl, hcl, hxl]
 have hvr : ∀ (i : Nat) (x : AV) (v : Value), (fi ++ (evls S c.args.toList ++ ca))[i]? = some x → (vfi ++ (c.args.toList.map a.eval ++ vca))[i]? = some v → RepV (rdOf cx.L ι S.h w) ι x v := by
   have two : ∀ {xs ys : List AV} {vs us : List Value}, xs.length = vs.length → (∀ (i : Nat) (x : AV) (v : Value), xs[i]? = some x → vs[i]? = some v → RepV (rdOf cx.L ι S.h w) ι x v) →
       (∀ (i : Nat) (x : AV) (v : Value), ys[i]? = some x → us[i]? = some v → RepV (rdOf cx.L ι S.h w) ι x v) →
       ∀ (i : Nat) (x : AV) (v : Value), (xs ++ ys)[i]? = some x → (vs ++ us)[i]? = some v → RepV (rdOf cx.L ι S.h w) ι x v := by
     intro xs ys vs us h1 h2 h3 i x v h4 h5
     rcases Nat.lt_or_ge i xs.length with h6 | h6
     · rw [List.getElem?_append_left h6] at h4
       rw [List.getElem?_append_left (by omega)] at h5
       exact h2 i x v h4 h5
     · rw [List.getElem?_append_right h6] at h4
       rw [List.getElem?_append_right (by omega), ← h1] at h5
       exact h3 _ x v h4 h5
   exact two hfl hfr (two hxl hxr hcr)
 rw [hargs] at hvr
 exact enter_wp H spec σ hd (call_enters ho hc spec.1 hfv) hvl hvr hlt hall hh hinj next
theorem AK.call {all r : List Oper} {k : List KI} {S : St} {o : Oper} {c : Call} {fo : Operand} {g : FuncId} {fi ca args : List AV} {h : List (Nat × Blk)} {fr : Nat} {Qc : AV → List (Nat × Blk) → Nat → Prop}
   (spec : ASpec P g args h fr Qc) (σ : Nat → Nat) (ho : o.op = .call c) (hc : c.callee = .value fo) (hg : guardB all S o = some true) (hd : ∀ d, o.dst = some d → d < cx.nt)
   (hf : fargs (evl S fo) = some (g, fi, ca)) (hargs : app3 fi (evls S c.args.toList) ca = rens σ args) (hlt : lts fr args = true)
   (hall : ∀ n, n < fr → (look n h).isSome = true) (hh : ∀ n B, look n h = some B → n < fr ∧ B.lt fr = true ∧ look (σ n) S.h = some (B.ren σ))
   (hinj : ∀ n m, n < fr → m < fr → σ n = σ m → n = m)
   (next : ∀ x h' fr', Qc x h' fr' → AK P cx Q (.ops all r :: k) ((S.after σ fr h' fr').put o.dst (x.ren (shift σ fr S.fr)))) :
   AK P cx Q (.ops all (o :: r) :: k) S := by
 intro ι a w H
 show wpList P all.toArray (den P cx Q k) (o :: r) a w
 unfold wpList
 rw [guardB_spec H hg, if_pos rfl]
 exact .inl (call_wp H spec σ ho hc hd hf hargs hlt hall hh hinj fun x h' fr' hQ ι' a' w' H' => next x h' fr' hQ ι' a' w' H')
theorem AK.call0 {all r : List Oper} {k : List KI} {S : St} {o : Oper} {c : Call} {fo : Operand} {g : FuncId} {fi ca args : List AV} {Qc : AV → List (Nat × Blk) → Nat → Prop}
   (spec : ASpec P g args [] 0 Qc) (ho : o.op = .call c) (hc : c.callee = .value fo) (hg : guardB all S o = some true) (hd : ∀ d, o.dst = some d → d < cx.nt)
   (hf : fargs (evl S fo) = some (g, fi, ca)) (hargs : app3 fi (evls S c.args.toList) ca = rens id args) (hlt : lts 0 args = true)
   (next : ∀ x h' fr', Qc x h' fr' → AK P cx Q (.ops all r :: k) ((S.after id 0 h' fr').put o.dst (x.ren (shift id 0 S.fr)))) :
   AK P cx Q (.ops all (o :: r) :: k) S :=
 AK.call spec id ho hc hg hd hf hargs hlt (fun n hn => absurd hn (by omega)) (fun n B h => by simp [look] at h) (fun n m h => absurd h (by omega)) next
end
end Go.Ua
