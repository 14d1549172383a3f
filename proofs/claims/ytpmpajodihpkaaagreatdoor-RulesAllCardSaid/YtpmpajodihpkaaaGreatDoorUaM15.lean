/- The library of this claim and its walks, part 15, joined out of smaller texts. No statement stands in it. -/
import Derived.Test.YtpmpajodihpkaaaGreatDoorUaM14
import Derived.Laws.Externs
set_option linter.unusedSectionVars false
set_option linter.unusedSimpArgs false
set_option linter.unusedVariables false
namespace Go.Ua
open Go Go.Proofs
mutual
def Dok : Dat → Prop
 | .s x => x.ok
 | .agg cs => Doks cs
 | .view _ es => es.length ≤ maxLen ∧ Doks es
 | .iface _ x => Dok x
 | .vref cs => Doks cs
def Doks : List Dat → Prop
 | [] => True
 | x :: r => Dok x ∧ Doks r
end
theorem Doks_iff {l : List Dat} : Doks l ↔ ∀ x, x ∈ l → Dok x := by
 induction l with
 | nil => simp [Doks]
 | cons x r ih => simp [Doks, ih]
theorem Dok.of_cells {x : Dat} (h : ∀ (j : Nat) (c : Dat), x.cells[j]? = some c → Dok c) : Dok x := by
 cases x with
 | agg cs =>
   simp only [Dok]
   refine Doks_iff.2 fun c hc => ?_
   obtain ⟨j, hj⟩ := List.mem_iff_getElem?.1 hc
   exact h j c hj
 | _ => exact h 0 _ rfl
theorem RepD.dok {R : Rd} {x : Dat} {v : Value} (h : RepD R x v) : Dok x := by
 induction h with
 | s x ho => exact ho
 | agg cs vs hl h1 h ih =>
   simp only [Dok]
   refine Doks_iff.2 fun c hc => ?_
   obtain ⟨j, hj⟩ := List.mem_iff_getElem?.1 hc
   have hlt := (List.getElem?_eq_some_iff.1 hj).1
   exact ih j c _ hj (List.getElem?_eq_getElem (hl ▸ hlt))
 | nil k => exact ⟨Nat.zero_le _, trivial⟩
 | view k es a cap f hc hm hsp hk hr h ih =>
   refine ⟨Nat.le_trans hc hm, Doks_iff.2 fun e he => ?_⟩
   obtain ⟨i, hi⟩ := List.mem_iff_getElem?.1 he
   exact Dok.of_cells fun j c hj => ih i e j c hi hj
 | iface t x v h ih => exact ih
 | vref cs b o f hr h ih =>
   simp only [Dok]
   refine Doks_iff.2 fun c hc => ?_
   obtain ⟨j, hj⟩ := List.mem_iff_getElem?.1 hc
   exact ih j c hj
def AVok : AV → Prop
 | .d x => Dok x
 | _ => True
def AVoks : List AV → Prop
 | [] => True
 | x :: r => AVok x ∧ AVoks r
theorem RepV.avok {R : Rd} {ι : Io} {x : AV} {v : Value} (h : RepV R ι x v) : AVok x := by
 cases h with
 | d x v h => exact h.dok
 | _ => trivial
theorem avoks_of {R : Rd} {ι : Io} : ∀ {l : List AV} {vs : List Value}, l.length = vs.length → (∀ (i : Nat) (x : AV) (v : Value), l[i]? = some x → vs[i]? = some v → RepV R ι x v) → AVoks l
 | [], _, _, _ => trivial
 | x :: r, [], h, _ => by simp at h
 | x :: r, v :: vs, h, hr => ⟨(hr 0 x v rfl rfl).avok, avoks_of (l := r) (vs := vs) (by simpa using h) fun i x v h1 h2 => hr (i + 1) x v h1 h2⟩
mutual
theorem ren_lt0 (r : Nat → Nat) : ∀ x : AV, x.lt 0 = true → x.ren r = x
 | .d x, _ => rfl
 | .agg cs, h => by simp only [AV.ren, rens_lt0 r cs (by simpa [AV.lt] using h)]
 | .tup cs, h => by simp only [AV.ren, rens_lt0 r cs (by simpa [AV.lt] using h)]
 | .ptr n i o k, h => by simp [AV.lt, Nat.blt] at h
 | .opt n, h => by simp [AV.lt, Nat.blt] at h
 | .mp n, h => by simp [AV.lt, Nat.blt] at h
 | .row n k, h => by simp [AV.lt, Nat.blt] at h
 | .own n i l k c, h => by simp [AV.lt, Nat.blt] at h
 | .iface t x, h => by simp only [AV.ren, ren_lt0 r x (by simpa [AV.lt] using h)]
 | .fn f a b, h => by
   simp only [AV.lt] at h
   split at h
   · rename_i h1
     simp only [AV.ren, rens_lt0 r a h1, rens_lt0 r b h]
   · cases h
 | .nul, _ => rfl
 | .any, _ => rfl
theorem rens_lt0 (r : Nat → Nat) : ∀ l : List AV, lts 0 l = true → rens r l = l
 | [], _ => rfl
 | x :: l, h => by
   simp only [lts] at h
   split at h
   · rename_i h1
     simp only [rens, ren_lt0 r x h1, rens_lt0 r l h]
   · cases h
end
mutual
theorem lt_mono0 {m : Nat} : ∀ {y : AV}, y.lt 0 = true → y.lt m = true
 | .d x, _ => rfl
 | .agg cs, h => by simp only [AV.lt] at h ⊢; exact lts_mono0 h
 | .tup cs, h => by simp only [AV.lt] at h ⊢; exact lts_mono0 h
 | .ptr n i o k, h => by simp [AV.lt, Nat.blt] at h
 | .opt n, h => by simp [AV.lt, Nat.blt] at h
 | .mp n, h => by simp [AV.lt, Nat.blt] at h
 | .row n k, h => by simp [AV.lt, Nat.blt] at h
 | .own n i l k c, h => by simp [AV.lt, Nat.blt] at h
 | .iface t x, h => by simp only [AV.lt] at h ⊢; exact lt_mono0 h
 | .fn f a b, h => by
   simp only [AV.lt] at h ⊢
   split at h
   · rename_i h1
     rw [lts_mono0 h1]
     exact lts_mono0 h
   · cases h
 | .nul, _ => rfl
 | .any, _ => rfl
theorem lts_mono0 {m : Nat} : ∀ {l : List AV}, lts 0 l = true → lts m l = true
 | [], _ => rfl
 | x :: l, h => by
   simp only [lts] at h ⊢
   split at h
   · rename_i h1
     rw [lt_mono0 h1]
     exact lts_mono0 h
   · cases h
end
def ESpec (P : Program) [Globs P] (f : FuncId) (args : List AV) (post : AV → Prop) : Prop := ASpec P f args [] 0 (fun x h' fr' => post x ∧ h' = [] ∧ fr' = 0)
theorem ESpec.mono {P : Program} [Globs P] {f : FuncId} {args : List AV} {p q : AV → Prop} (h : ESpec P f args p) (hq : ∀ x, p x → q x) : ESpec P f args q :=
 ASpec.mono h fun x h' fr' ⟨a, b, c⟩ => ⟨hq x a, b, c⟩
theorem ESpec.named {P : Program} [Globs P] {f : FuncId} {args : List AV} {p : AV → Prop} (h : ESpec P f args p) : ESpec P f args (fun x => p x ∧ x.lt 0 = true) := by
 refine ⟨h.1, fun X L w ι vs h1 hg h2 h3 => (h.2 X L w ι vs h1 hg h2 h3).mono ?_⟩
 rintro e w' ⟨v, x, h', fr', ι', he, ⟨hp, rfl, rfl⟩, hrep, H⟩
 exact ⟨v, x, [], 0, ι', he, ⟨⟨hp, hrep.lt_of H.fresh⟩, rfl, rfl⟩, hrep, H⟩
mutual
inductive LeA : AV → AV → Prop
 | refl (x : AV) : LeA x x
 | d {x y : Dat} : LeD x y → LeA (.d x) (.d y)
inductive LesA : List AV → List AV → Prop
 | nil : LesA [] []
 | cons {x y : AV} {cs ds : List AV} : LeA x y → LesA cs ds → LesA (x :: cs) (y :: ds)
end
theorem LesA.get : ∀ {cs ds : List AV}, LesA cs ds → cs.length = ds.length ∧ ∀ (i : Nat) (y : AV), ds[i]? = some y → ∃ x, cs[i]? = some x ∧ LeA x y
 | _, _, .nil => ⟨rfl, by simp⟩
 | _, _, .cons h t => by
   obtain ⟨h1, h2⟩ := t.get
   refine ⟨by simp [h1], fun i y hy => ?_⟩
   cases i with
   | zero => simp only [List.getElem?_cons_zero, Option.some.injEq] at hy; subst hy; exact ⟨_, rfl, h⟩
   | succ i => simpa using h2 i y (by simpa using hy)
theorem LeA.rep {R : Rd} {ι : Io} {x y : AV} {v : Value} (h : LeA x y) (hr : RepV R ι x v) : RepV R ι y v := by
 cases h with
 | refl => exact hr
 | d h => cases hr with | d _ _ hd => exact .d _ _ (LeD.rep hd h)
theorem ESpec.less {P : Program} [Globs P] {f : FuncId} {args args' : List AV} {p : AV → Prop} (h : ESpec P f args p) (hl : LesA args' args) : ESpec P f args' p := by
 obtain ⟨g1, g2⟩ := hl.get
 refine ⟨h.1, fun X L w ι vs h1 hg h2 h3 => h.2 X L w ι vs h1 hg (by rw [← g1]; exact h2) fun i y v hy hv => ?_⟩
 obtain ⟨x, hx, hle⟩ := g2 i y hy
 exact hle.rep (h3 i x v hx hv)
section
variable {P : Program} [Globs P] {τ : Tab} {cx : Cx P} {Q : Exit → Act → World → Prop}
def finE (P : Program) [Globs P] (fn : Func) (cx : Cx P) (post : AV → Prop) : Exit → Act → World → Prop := fin P fn cx (fun x h' fr' => post x ∧ h' = [] ∧ fr' = 0)
theorem ESpec.enter {f : FuncId} {fn : Func} {c : Code} {args : List AV} {post : AV → Prop}
   (hf : P.funcs[f]? = some fn) (hname : (fn.name == "runtime.NumGoroutine") = false) (hb : fn.body = some c) (hl : args.length ≤ fn.ntmps)
   (H : AVoks args → ∀ cx : Cx P, cx.nt = fn.ntmps → cx.w0.fr = 0 → AK P cx (finE P fn cx post) [.code c] ⟨enumT 0 args, [], 0⟩) : ESpec P f args post := by
 have base : AVoks args → ESpec P f args post := fun hok => ASpec.enter hf hname hb hl (H hok)
 refine ⟨enters_of hf hname hb, fun X L w ι vs h1 hg h2 h3 => ?_⟩
 exact (base (avoks_of h2 h3)).2 X L w ι vs h1 hg h2 h3
theorem AKp.bound {kk : List KI} {S : St} (i : Nat) {x : Dat} (hx : look i S.t = some (.d x)) (h : Dok x → AKp P cx Q (kk, S)) : AKp P cx Q (kk, S) := by
 intro ι a w H
 have := H.tm _ _ hx
 cases this with
 | d _ _ hd => exact h hd.dok ι a w H
def endX (τ : Tab) (S : St) (rs : List ResultVar) : Option AV := match resAV τ S rs with
 | some l => (match (tupAV l).lt 0 with
   | true => some (tupAV l)
   | false => none)
 | none => none
theorem AKp.doneE {fn : Func} {post : AV → Prop} (hτ : TabOK P τ) {S : St} {x : AV} (h0 : cx.w0.fr = 0) (hres : endX τ S fn.results.toList = some x)
   (hQ : post x) {k : List KI} : AKp P cx (finE P fn cx post) (.code .ret :: k, S) := by
 unfold endX at hres
 split at hres
 · rename_i l hl
   split at hres
   · rename_i hlt
     obtain rfl := Option.some.inj hres
     exact AKp.doneX hτ hl rfl hlt h0 ⟨hQ, rfl, rfl⟩
   · cases hres
 · cases hres
theorem AKp.asRow {kk : List KI} {S : St} (i : Nat) (E : TypeId) (k : Nat) (hk : 0 < k) (hx : look i S.t = some (.d (.s .sl0))) (h : AKp P cx Q (kk, ⟨(i, .row S.fr k) :: del i S.t, (S.fr, .ds E k []) :: S.h, S.fr + 1⟩)) : AKp P cx Q (kk, S) := by
 intro ι a w H
 have hv := H.tm _ _ hx
 have hv' : a.tmps.getD i undef = .slice none 0 0 := rep_s hv
 obtain ⟨ι', H', hz⟩ := H.fresh (w' := w) (n0 := none) (loc := .nil) (B := .ds E k []) (z := .row S.fr k) (v := .slice none 0 0) (fun b _ _ => rfl) (fun b c l h => by cases h) rfl rfl rfl (Nat.le_refl _)
   (fun R' ι' hR hι hi => .ds0 _ _ hi hk) (fun R' ι' hi => .row0 _ _ _ hi)
 refine h ι' a w ⟨H'.hr, fun t z hz' => ?_, H'.sz, H'.df⟩
 simp only [look_cons, look_del] at hz'
 split at hz'
 · rename_i e
   obtain rfl := Option.some.inj hz'
   subst e
   rw [hv']
   exact hz
 · split at hz'
   · cases hz'
   · exact H'.tm t z hz'
def dstB (nt : Nat) (o : Oper) : Bool := match o.dst with
 | some d => Nat.blt d nt
 | none => true
theorem dstB_lt {nt : Nat} {o : Oper} (h : dstB nt o = true) : ∀ d, o.dst = some d → d < nt := by
 intro d hd
 unfold dstB at h
 rw [hd] at h
 exact blt_lt h
theorem AKp.call {F : Fam} (hF : F = Fam.real) (hτ : TabOK P τ) {n : Nat} (hn : cx.nt = n) {all r : List Oper} {k : List KI} {S : St} {o : Oper} {c : Call} {fo : Operand} {g : FuncId} {fi ca args args' : List AV} {post : AV → Prop}
   (spec : ESpec P g args post) (ho : o.op = .call c) (hc : c.callee = .value fo) (hg : guardB all S o = some true) (hd : dstB n o = true)
   (hf : fargs (evl S fo) = some (g, fi, ca)) (hargs : app3 fi (evls S c.args.toList) ca = args') (hlt : lts 0 args' = true) (hle : LesA args' args)
   (next : ∀ x, post x → AKp P cx Q (runC (Ar.of F) τ n 100000 (.ops all r :: k) (S.put o.dst x))) :
   AKp P cx Q (.ops all (o :: r) :: k, S) := by
 refine AK.call0 (spec.less hle).named ho hc hg (by rw [hn]; exact dstB_lt hd) hf (by rw [hargs, rens_lt0 _ _ hlt]) hlt ?_
 rintro x h' fr' ⟨⟨hp, hx⟩, rfl, rfl⟩
 rw [ren_lt0 _ _ hx]
 exact AK.run hF hτ hn (next x hp)
theorem DK.call {F : Fam} (hF : F = Fam.real) (hτ : TabOK P τ) {n : Nat} (hn : cx.nt = n) (hfr : cx.w0.fr = 0) {all r : List Oper} {id : Nat} {k : List KI} {S0 S : St} {o : Oper} {c : Call} {fo : Operand} {g : FuncId} {fi ca args args' : List AV} {z : AV}
   (spec : ESpec P g args (fun x => x = z)) (j : Nat) (ho : o.op = .call c) (hc : c.callee = .value fo) (hg : guardB all S o = some true) (hd : dstB n o = true)
   (hf : fargs (evl S fo) = some (g, fi, ca)) (hargs : app3 fi (evls S c.args.toList) ca = args') (hlt : lts 0 args' = true) (hz : z.lt 0 = true) (hle : LesA args' args)
   (next : DK P cx Q all id k S0 (Ua.runV (Ar.of F) τ n all (j + 1) r (S.put o.dst z))) :
   DK P cx Q all id k S0 (o :: r, S) := by
 refine DK.call0 (spec.less hle) z ho hc hg (by rw [hn]; exact dstB_lt hd) hf (by rw [hargs, rens_lt0 _ _ hlt]) hlt ?_ (DK.runV hF hτ hn hfr (j + 1) next)
 rintro x h' fr' ⟨rfl, rfl, rfl⟩
 exact ⟨ren_lt0 _ _ hz, rfl, rfl⟩
def dstsO : List Oper → List Nat → List Nat
 | [], l => l
 | o :: r, l => (match o.dst with
   | some d => dstsO r (d :: l)
   | none => dstsO r l)
def dstsC : Code → List Nat → List Nat
 | .region _ ops _, l => dstsO ops.toList l
 | .seq a b, l => dstsC a (dstsC b l)
 | .cond _ a b, l => dstsC a (dstsC b l)
 | .block _ a, l => dstsC a l
 | .loop a, l => dstsC a l
 | .rangeFunc _ ps a b, l => dstsC a (dstsC b (ps.toList ++ l))
 | .scope a, l => dstsC a l
 | _, l => l
def keepT (ds : List Nat) (m : Nat) : List (Nat × AV) → List (Nat × AV)
 | [] => []
 | p :: r => (match Nat.blt p.1 m, memN p.1 ds with
   | true, false => p :: keepT ds m r
   | _, _ => keepT ds m r)
def appT : List (Nat × AV) → List (Nat × AV) → List (Nat × AV)
 | [], b => b
 | x :: a, b => x :: appT a b
def AKl (P : Program) [Globs P] (cx : Cx P) (Q : Exit → Act → World → Prop) (c : Code) (k : List KI) (S : St) (K : List (Nat × AV)) : Prop :=
 K = K → AKp P cx Q (.code (.loop c) :: k, S)
theorem AKp.enterLoop (m : Nat) {c : Code} {k : List KI} {S : St} (h : AKl P cx Q c k S (keepT (dstsC c []) m S.t)) : AKp P cx Q (.code (.loop c) :: k, S) := h rfl
theorem AKl.inv {F : Fam} (hF : F = Fam.real) (hτ : TabOK P τ) {nn : Nat} (hn : cx.nt = nn) {c : Code} {k : List KI} {S : St} {K : List (Nat × AV)} (h0 : cx.w0.fr = 0) (I : Nat → List (Nat × AV) → List (Nat × Blk) → Prop) (n : Nat) {vs : List (Nat × AV)} {hs : List (Nat × Blk)}
   (hI : I n vs hs) (h1 : leT0 S.fr S.t (appT vs K)) (h2 : leH0 S.fr S.h hs)
   (round : ∀ (J : St → Prop) n vs hs, (∀ m vs hs, m < n → I m vs hs → J ⟨appT vs K, hs, S.fr⟩) → I n vs hs → AKp P cx Q (runC (Ar.of F) τ nn 100000 (.code c :: .back J :: k) ⟨appT vs K, hs, S.fr⟩)) : AKl P cx Q c k S K := by
 intro hK
 refine AKp.loop (I := fun n S' => ∃ vs hs, I n vs hs ∧ S' = ⟨appT vs K, hs, S.fr⟩) ⟨appT vs K, hs, S.fr⟩ h0 h1 h2 n ⟨vs, hs, hI, rfl⟩ ?_
 rintro n S' ⟨vs, hs, hI, rfl⟩
 refine AK.run hF hτ hn (round _ n vs hs ?_ hI)
 intro m vs hs hm hI
 exact ⟨m, hm, vs, hs, hI, rfl⟩
def rnm (rs : List (Nat × Nat)) (n : Nat) : Nat := match look n rs with
 | some m => m
 | none => n
def keysR (rs : List (Nat × Nat)) : List (Nat × Blk) → List Nat
 | [] => []
 | p :: l => rnm rs p.1 :: keysR rs l
def nodupB : List Nat → Bool
 | [] => true
 | n :: l => (match memN n l with
   | true => false
   | false => nodupB l)
theorem memN_of {n : Nat} : ∀ {l : List Nat}, n ∈ l → memN n l = true
 | [], h => by simp at h
 | m :: l, h => by
   simp only [memN]
   cases hb : Nat.beq m n
   · simp only
     rcases List.mem_cons.1 h with e | e
     · subst e; simp at hb
     · exact memN_of e
   · rfl
theorem mem_keysR {rs : List (Nat × Nat)} : ∀ {h : List (Nat × Blk)} {n : Nat}, (look n h).isSome = true → rnm rs n ∈ keysR rs h
 | [], n, h => by simp [look] at h
 | p :: l, n, h => by
   rw [look_cons] at h
   simp only [keysR]
   split at h
   · rename_i e
     rw [e]; simp
   · exact List.mem_cons_of_mem _ (mem_keysR h)
theorem keys_inj {rs : List (Nat × Nat)} : ∀ {h : List (Nat × Blk)}, nodupB (keysR rs h) = true → ∀ n m, (look n h).isSome = true → (look m h).isSome = true → rnm rs n = rnm rs m → n = m
 | [], _, n, m, h, _, _ => by simp [look] at h
 | p :: l, hd, n, m, h1, h2, h3 => by
   simp only [keysR, nodupB] at hd
   split at hd
   · cases hd
   · rename_i hm
     rw [look_cons] at h1 h2
     by_cases e1 : p.1 = n <;> by_cases e2 : p.1 = m
     · rw [← e1, ← e2]
     · rw [if_neg e2] at h2
       have := memN_of (mem_keysR (rs := rs) h2)
       rw [← h3, ← e1, hm] at this
       cases this
     · rw [if_neg e1] at h1
       have := memN_of (mem_keysR (rs := rs) h1)
       rw [h3, ← e2, hm] at this
       cases this
     · rw [if_neg e1] at h1
       rw [if_neg e2] at h2
       exact keys_inj hd n m h1 h2 h3
theorem AKp.againR (rs : List (Nat × Nat)) {k : List KI} {S : St} (S' : St) {J : St → Prop} (h0 : cx.w0.fr = 0) (h1 : leT (rnm rs) S'.fr S.t S'.t) (h2 : leH (rnm rs) S'.fr S.h S'.h) (h3 : nodupB (keysR rs S'.h) = true) (h : J S') : AKp P cx Q (.back J :: k, S) :=
 AK.back (rnm rs) (fun n hn => by omega) (St.le_of h1 h2 (keys_inj h3)) h
theorem AKp.op {F : Fam} (hF : F = Fam.real) (hτ : TabOK P τ) {n : Nat} (hn : cx.nt = n) {all r : List Oper} {k : List KI} {S S' : St} {o : Oper} {z : AV} (hg : guardB all S o = some true) (hd : dstB n o = true)
   (H : ∀ ι a w, Rel cx.X cx.L cx.w0 cx.nt ι S a w → ∃ v w' ι', (execOp a.eval o).run P w = .ok (.value v) w' ∧ Rel cx.X cx.L cx.w0 cx.nt ι' S' a w' ∧ RepV (rdOf cx.L ι' S'.h w') ι' z v)
   (next : AKp P cx Q (runC (Ar.of F) τ n 100000 (.ops all r :: k) (S'.put o.dst z))) :
   AKp P cx Q (.ops all (o :: r) :: k, S) := by
 intro ι a w HR
 show wpList P all.toArray (den P cx Q k) (o :: r) a w
 unfold wpList
 rw [guardB_spec HR hg, if_pos rfl]
 refine .inl ?_
 obtain ⟨v, w', ι', h1, h2, h3⟩ := H ι a w HR
 have hlt : ∀ d, o.dst = some d → d < cx.nt := by rw [hn]; exact dstB_lt hd
 have hk := AK.run (P := P) (cx := cx) (Q := Q) (k := .ops all r :: k) (S := S'.put o.dst z) hF hτ hn next ι' _ w' (h2.put hlt h3)
 unfold Oper.wp
 rw [h1]
 exact hk
theorem AKp.callN {F : Fam} (hF : F = Fam.real) (hτ : TabOK P τ) {n : Nat} (hn : cx.nt = n) {all r : List Oper} {k : List KI} {S : St} {o : Oper} {c : Call} {fo : Operand} {g : FuncId} {fi ca args : List AV} {h : List (Nat × Blk)} {fr : Nat} {Qc : AV → List (Nat × Blk) → Nat → Prop}
   (spec : ASpec P g args h fr Qc) (σ : Nat → Nat) (ho : o.op = .call c) (hc : c.callee = .value fo) (hg : guardB all S o = some true) (hd : dstB n o = true)
   (hf : fargs (evl S fo) = some (g, fi, ca)) (hargs : app3 fi (evls S c.args.toList) ca = rens σ args) (hlt : lts fr args = true)
   (hall : ∀ n, n < fr → (look n h).isSome = true) (hh : ∀ n B, look n h = some B → n < fr ∧ B.lt fr = true ∧ look (σ n) S.h = some (B.ren σ))
   (hinj : ∀ n m, n < fr → m < fr → σ n = σ m → n = m)
   (next : ∀ x h' fr', Qc x h' fr' → AKp P cx Q (runC (Ar.of F) τ n 100000 (.ops all r :: k) ((S.after σ fr h' fr').put o.dst (x.ren (shift σ fr S.fr))))) :
   AKp P cx Q (.ops all (o :: r) :: k, S) :=
 AK.call spec σ ho hc hg (by rw [hn]; exact dstB_lt hd) hf hargs hlt hall hh hinj fun x h' fr' hq => AK.run hF hτ hn (next x h' fr' hq)
theorem AK.keepL {k : List KI} {S : St} (S' : St) (h0 : cx.w0.fr ≤ S'.fr) (h1 : leT0 S'.fr S.t S'.t) (h2 : leH0 S'.fr S.h S'.h) (h : AK P cx Q k S') : AK P cx Q k S := by
 intro ι a w H
 obtain ⟨ι', H'⟩ := H.le (fun n hn => ⟨by omega, rfl⟩) (St.le0 h1 h2)
 exact h ι' a w H'
theorem AKp.againL {k : List KI} {S : St} (S' : St) {J : St → Prop} (h0 : cx.w0.fr ≤ S'.fr) (h1 : leT0 S'.fr S.t S'.t) (h2 : leH0 S'.fr S.h S'.h) (h : J S') : AKp P cx Q (.back J :: k, S) := by
 intro ι a w H
 obtain ⟨ι', H'⟩ := H.le (fun n hn => ⟨by omega, rfl⟩) (St.le0 h1 h2)
 exact ⟨S', ι', h, H'⟩
theorem AKl.invL {F : Fam} (hF : F = Fam.real) (hτ : TabOK P τ) {nn : Nat} (hn : cx.nt = nn) {c : Code} {k : List KI} {S : St} {K : List (Nat × AV)} (h0 : cx.w0.fr ≤ S.fr) (I : Nat → List (Nat × AV) → List (Nat × Blk) → Prop) (n : Nat) {vs : List (Nat × AV)} {hs : List (Nat × Blk)}
   (hI : I n vs hs) (h1 : leT0 S.fr S.t (appT vs K)) (h2 : leH0 S.fr S.h hs)
   (round : ∀ (J : St → Prop) n vs hs, (∀ m vs hs, m < n → I m vs hs → J ⟨appT vs K, hs, S.fr⟩) → I n vs hs → AKp P cx Q (runC (Ar.of F) τ nn 100000 (.code c :: .back J :: k) ⟨appT vs K, hs, S.fr⟩)) : AKl P cx Q c k S K := by
 intro hK
 refine AK.keepL ⟨appT vs K, hs, S.fr⟩ h0 h1 h2 (AK.loop (fun n S' => ∃ vs hs, I n vs hs ∧ S' = ⟨appT vs K, hs, S.fr⟩) n ⟨vs, hs, hI, rfl⟩ ?_)
 rintro n S' ⟨vs, hs, hI, rfl⟩
 refine AK.run hF hτ hn (round _ n vs hs ?_ hI)
 intro m vs hs hm hI
 exact ⟨m, hm, vs, hs, hI, rfl⟩
theorem AKp.doneN {fn : Func} {Qr : AV → List (Nat × Blk) → Nat → Prop} (hτ : TabOK P τ) {S : St} {x : AV} {h' : List (Nat × Blk)} {fr' : Nat} (h0 : cx.w0.fr = fr') (hres : endX τ S fn.results.toList = some x)
   (hh : leH0 fr' S.h h') (hQ : Qr x h' fr') {k : List KI} : AKp P cx (fin P fn cx Qr) (.code .ret :: k, S) := by
 unfold endX at hres
 split at hres
 · rename_i l hl
   split at hres
   · rename_i hlt
     obtain rfl := Option.some.inj hres
     refine AK.ret fun ι a w H => (fin_of (cx := cx) hτ hl id (x := tupAV l) (h' := h') (fr' := fr') (by rw [ren_id]) ?_ (fun n hn => ⟨by omega, rfl⟩) (fun n B hB => ?_) (fun n m _ _ e => e) hQ ι a w H).1
     · have : ∀ {m : Nat} {y : AV}, y.lt 0 = true → y.lt m = true := lt_mono0
       exact this hlt
     · have : ∀ {h' : List (Nat × Blk)}, leH0 fr' S.h h' → ∀ n B, look n h' = some B → n < fr' ∧ B.lt fr' = true ∧ look n S.h = some B := by
         intro h'
         induction h' with
         | nil => intro _ n B hB; simp [look] at hB
         | cons p l ih =>
           intro ⟨⟨g1, g2, g3⟩, g4⟩ n B hB
           rw [look_cons] at hB
           split at hB
           · rename_i e
             obtain rfl := Option.some.inj hB
             subst e
             exact ⟨blt_lt g3, g2, g1⟩
           · exact ih g4 n B hB
       obtain ⟨g1, g2, g3⟩ := this hh n B hB
       exact ⟨g1, g2, by rw [bren_id]; exact g3⟩
   · cases hres
 · cases hres
theorem exec_ext {a : Act} {w w' : World} {o : Oper} {c : Call} {f : FuncId} {fn : Func} {e : Array Value → Sem Value} {v : Value} (ho : o.op = .call c) (hc : c.callee = .value (.func f))
   (hf : P.funcs[f]? = some fn) (hname : (fn.name == "runtime.NumGoroutine") = false) (hb : fn.body.isNone = true) (hn : Extern.findNext fn = none) (he : Extern.find fn = some e)
   (hrun : (e (c.args.toList.map a.eval).toArray).run P w = .ok v w') : (execOp a.eval o).run P w = .ok (.value v) w' := by
 have e1 : c.args.map a.eval = (c.args.toList.map a.eval).toArray := by apply Array.ext'; simp
 have e2 : a.eval (.func f) = .func (.func f) #[] #[] := rfl
 simp only [execOp, ho, resolve, hc, e2, Deferred.ofValue, Sem.run_bind, Sem.run_pure, Result.andThen_ok, invoke, e1]
 have := run_callFunc_extern hf hname hb hn he (#[] ++ (c.args.toList.map a.eval).toArray ++ #[]) w
 simp only [Array.empty_append, Array.append_empty] at this ⊢
 rw [this, hrun]
 rfl
theorem exec_inv {a : Act} {w w' : World} {o : Oper} {c : Call} {recv : Operand} {name : String} {t : TypeId} {rv receiver : Value} {g : FuncId} {fn : Func} {e : Array Value → Sem Value} {v : Value} (ho : o.op = .call c)
   (hc : c.callee = .invoke recv name) (hr : a.eval recv = .iface t rv) (hm : (Go.method (P.types.size + Made.depth) t rv name).run P w = .ok (g, receiver) w)
   (hf : P.funcs[g]? = some fn) (hname : (fn.name == "runtime.NumGoroutine") = false) (hb : fn.body.isNone = true) (hn : Extern.findNext fn = none) (he : Extern.find fn = some e)
   (hrun : (e (receiver :: c.args.toList.map a.eval).toArray).run P w = .ok v w') : (execOp a.eval o).run P w = .ok (.value v) w' := by
 have e1 : c.args.map a.eval = (c.args.toList.map a.eval).toArray := by apply Array.ext'; simp
 simp only [execOp, ho, resolve, hc, hr, Sem.run_bind, Sem.run_pure, Result.andThen_ok, invoke, e1]
 have e3 : (#[Value.iface t rv] ++ (c.args.toList.map a.eval).toArray)[0]? = some (Value.iface t rv) := by simp
 rw [e3]
 simp only [Sem.run_pure, Result.andThen_ok, callMethod, Sem.run_bind, run_program]
 rw [hm]
 simp only [Result.andThen_ok]
 have := run_callFunc_extern hf hname hb hn he (receiver :: c.args.toList.map a.eval).toArray w
 rw [hrun] at this
 simp only [Result.andThen_ok] at this
 rw [← this]
 congr 2
 apply Array.ext'
 simp
 exact List.take_of_length_le (by simp)
theorem inv_enters {a : Act} {w : World} {o : Oper} {c : Call} {recv : Operand} {name : String} {t : TypeId} {rv receiver : Value} {g : FuncId} (ho : o.op = .call c)
   (hc : c.callee = .invoke recv name) (hr : a.eval recv = .iface t rv) (hm : (Go.method (P.types.size + Made.depth) t rv name).run P w = .ok (g, receiver) w) (he : Enters P g) :
   (execOp a.eval o).run P w = .ok (.enter g (receiver :: c.args.toList.map a.eval).toArray) w := by
 have e1 : c.args.map a.eval = (c.args.toList.map a.eval).toArray := by apply Array.ext'; simp
 simp only [execOp, ho, resolve, hc, hr, Sem.run_bind, Sem.run_pure, Result.andThen_ok, invoke, e1]
 have e3 : (#[Value.iface t rv] ++ (c.args.toList.map a.eval).toArray)[0]? = some (Value.iface t rv) := by simp
 rw [e3]
 simp only [Sem.run_pure, Result.andThen_ok, callMethod, Sem.run_bind, run_program]
 rw [hm]
 simp only [Result.andThen_ok]
 rw [he]
 congr 2
 apply Array.ext'
 simp
 exact List.take_of_length_le (by simp)
theorem AKp.callI {F : Fam} (hF : F = Fam.real) (hτ : TabOK P τ) {n : Nat} (hn : cx.nt = n) {all r : List Oper} {k : List KI} {S : St} {o : Oper} {c : Call} {recv : Operand} {name : String} {t : TypeId} {d : Dat} {g : FuncId} {post : AV → Prop}
   (spec : ESpec P g [.d d] post) (ho : o.op = .call c) (hc : c.callee = .invoke recv name) (hargs : c.args = #[]) (hg : guardB all S o = some true) (hd : dstB n o = true)
   (hr : evl S recv = .d (.iface t d)) (hm : ∀ (R : Rd) (rv : Value) (w : World), RepD R d rv → (Go.method (P.types.size + Made.depth) t rv name).run P w = .ok (g, rv) w)
   (next : ∀ x, post x → AKp P cx Q (runC (Ar.of F) τ n 100000 (.ops all r :: k) (S.put o.dst x))) :
   AKp P cx Q (.ops all (o :: r) :: k, S) := by
 intro ι a w HR
 show wpList P all.toArray (den P cx Q k) (o :: r) a w
 unfold wpList
 rw [guardB_spec HR hg, if_pos rfl]
 refine .inl ?_
 have he := HR.evl recv
 rw [hr] at he
 have hed := rep_d he
 generalize hev : a.eval recv = ev at hed
 cases hed with
 | iface _ _ rv hrd =>
   refine enter_wp HR spec.named id (by rw [hn]; exact dstB_lt hd) (vs := [rv]) ?_ rfl ?_ rfl (fun n hn => absurd hn (by omega)) (fun n B h => by simp [look] at h) (fun n m h => absurd h (by omega)) ?_
   · have := inv_enters (P := P) (w := w) ho hc hev (hm _ rv w hrd) spec.1
     rw [hargs] at this
     simpa using this
   · intro i x v hx hv
     match i, hx, hv with
     | 0, hx, hv => cases hx; cases hv; exact .d _ _ hrd
     | i + 1, hx, hv => cases hv
   · rintro x h' fr' ⟨⟨hp, hx⟩, rfl, rfl⟩ ι' a' w' H'
     rw [ren_lt0 _ _ hx] at H'
     exact AK.run (P := P) (cx := cx) (Q := Q) (k := .ops all r :: k) (S := S.put o.dst x) hF hτ hn (next x hp) ι' a' w' H'
theorem AKp.ext0 {F : Fam} (hF : F = Fam.real) (hτ : TabOK P τ) {n : Nat} (hn : cx.nt = n) {all r : List Oper} {k : List KI} {S : St} {o : Oper} {c : Call} {f : FuncId} {fn : Func} {e : Array Value → Sem Value} {args : List AV} {z : AV}
   (hf : P.funcs[f]? = some fn) (hname : (fn.name == "runtime.NumGoroutine") = false) (hb : fn.body.isNone = true) (hn2 : Extern.findNext fn = none) (he : Extern.find fn = some e)
   (ho : o.op = .call c) (hc : c.callee = .value (.func f)) (hg : guardB all S o = some true) (hd : dstB n o = true) (hargs : evls S c.args.toList = args)
   (H : ∀ (R : Rd) (ι : Io) (vs : List Value) (w : World), args.length = vs.length → (∀ (i : Nat) (x : AV) (v : Value), args[i]? = some x → vs[i]? = some v → RepV R ι x v) → ∃ v, (e vs.toArray).run P w = .ok v w ∧ RepV R ι z v)
   (next : AKp P cx Q (runC (Ar.of F) τ n 100000 (.ops all r :: k) (S.put o.dst z))) : AKp P cx Q (.ops all (o :: r) :: k, S) := by
 refine AKp.op (S' := S) hF hτ hn hg hd (fun ι a w HR => ?_) next
 obtain ⟨h1, h2⟩ := evls_rep HR c.args.toList
 rw [hargs] at h1 h2
 obtain ⟨v, hv, hz⟩ := H (rdOf cx.L ι S.h w) ι (c.args.toList.map a.eval) w h1 h2
 exact ⟨v, w, ι, exec_ext ho hc hf hname hb hn2 he hv, HR, hz⟩
theorem AKp.inv0 {F : Fam} (hF : F = Fam.real) (hτ : TabOK P τ) {n : Nat} (hn : cx.nt = n) {all r : List Oper} {k : List KI} {S : St} {o : Oper} {c : Call} {recv : Operand} {name : String} {t : TypeId} {d : Dat} {f : FuncId} {fn : Func} {e : Array Value → Sem Value} {args : List AV} {z : AV}
   (hf : P.funcs[f]? = some fn) (hname : (fn.name == "runtime.NumGoroutine") = false) (hb : fn.body.isNone = true) (hn2 : Extern.findNext fn = none) (he : Extern.find fn = some e)
   (ho : o.op = .call c) (hc : c.callee = .invoke recv name) (hg : guardB all S o = some true) (hd : dstB n o = true) (hr : evl S recv = .d (.iface t d)) (hargs : evls S c.args.toList = args)
   (H : ∀ (R : Rd) (ι : Io) (rv : Value) (vs : List Value) (w : World), RepD R d rv → args.length = vs.length → (∀ (i : Nat) (x : AV) (v : Value), args[i]? = some x → vs[i]? = some v → RepV R ι x v) →
     ∃ receiver v, (Go.method (P.types.size + Made.depth) t rv name).run P w = .ok (f, receiver) w ∧ (e (receiver :: vs).toArray).run P w = .ok v w ∧ RepV R ι z v)
   (next : AKp P cx Q (runC (Ar.of F) τ n 100000 (.ops all r :: k) (S.put o.dst z))) : AKp P cx Q (.ops all (o :: r) :: k, S) := by
 refine AKp.op (S' := S) hF hτ hn hg hd (fun ι a w HR => ?_) next
 obtain ⟨h1, h2⟩ := evls_rep HR c.args.toList
 rw [hargs] at h1 h2
 have h3 := HR.evl recv
 rw [hr] at h3
 have h4 := rep_d h3
 generalize hev : a.eval recv = ev at h4
 cases h4 with
 | iface _ _ rv hrd =>
   obtain ⟨receiver, v, hm, hv, hz⟩ := H (rdOf cx.L ι S.h w) ι rv (c.args.toList.map a.eval) w hrd h1 h2
   exact ⟨v, w, ι, exec_inv ho hc hev hm hf hname hb hn2 he hv, HR, hz⟩
theorem AKp.tassert {F : Fam} (hF : F = Fam.real) (hτ : TabOK P τ) {n : Nat} (hn : cx.nt = n) {all r : List Oper} {k : List KI} {S : St} {o : Oper} {x : Operand} {xt at_ t : TypeId} {d : Dat} (b : Bool)
   (ho : o.op = .typeAssert x xt at_ true) (hg : guardB all S o = some true) (hd : dstB n o = true) (hx : evl S x = .d (.iface t d))
   (H : ∀ (R : Rd) (rv : Value) (w : World), RepD R d rv → (Instr.typeAssert (.iface t rv) xt at_ true).run P w = .ok (.tuple #[if b then .iface t rv else .nilIface, .bool b]) w)
   (next : AKp P cx Q (runC (Ar.of F) τ n 100000 (.ops all r :: k) (S.put o.dst (.tup [.d (if b then .iface t d else .s .if0), .d (.s (.bool b))])))) : AKp P cx Q (.ops all (o :: r) :: k, S) := by
 refine AKp.op (S' := S) hF hτ hn hg hd (fun ι a w HR => ?_) next
 have h3 := HR.evl x
 rw [hx] at h3
 have h4 := rep_d h3
 generalize hev : a.eval x = ev at h4
 cases h4 with
 | iface _ _ rv hrd =>
   refine ⟨.tuple #[if b then .iface t rv else .nilIface, .bool b], w, ι, ?_, HR, ?_⟩
   · simp only [execOp, ho, hev, Sem.run_bind, H _ rv w hrd, Result.andThen_ok, Sem.run_pure]
   · refine .tup _ [if b then .iface t rv else .nilIface, .bool b] rfl fun i c v hc hv => ?_
     match i, hc, hv with
     | 0, hc, hv =>
       cases hc; cases hv
       cases b
       · exact .d _ _ (.s .if0 trivial)
       · exact .d _ _ (.iface _ _ _ hrd)
     | 1, hc, hv => cases hc; cases hv; exact .d _ _ (.s (.bool b) trivial)
     | i + 2, hc, hv => simp at hc
theorem AKp.loadG {F : Fam} (hF : F = Fam.real) (hτ : TabOK P τ) {n : Nat} (hn : cx.nt = n) {all r : List Oper} {k : List KI} {S : St} {o : Oper} {t : TypeId} {g : Nat} {v : Value} {z : AV}
   (ho : o.op = .load t (.global g)) (hg : guardB all S o = some true) (hd : dstB n o = true) (hG : Globs.G P g (fun cs => cs = [v]))
   (hrun : ∀ w : World, w.cell? ⟨g, 0, none⟩ = some v → (Instr.loadAt t (.pointer (some ⟨g, 0, none⟩))).run P w = .ok v w) (hz : ∀ (R : Rd) (ι : Io), RepV R ι z v)
   (next : AKp P cx Q (runC (Ar.of F) τ n 100000 (.ops all r :: k) (S.put o.dst z))) : AKp P cx Q (.ops all (o :: r) :: k, S) := by
 refine AKp.op (S' := S) hF hτ hn hg hd (fun ι a w HR => ?_) next
 obtain ⟨h1, cs, tg, fz, rfl, h2⟩ := cx.gok g _ hG
 have hb0 : g < cx.w0.w.heap.size := (Array.getElem?_eq_some_iff.1 h2).1
 have hw : w.cell? ⟨g, 0, none⟩ = some v := by
   unfold World.cell?
   rw [HR.hr.kp.block g hb0 h1, h2]
   rfl
 refine ⟨v, w, ι, ?_, HR, hz _ _⟩
 have := hrun w hw
 have e2 : a.eval (.global g) = .pointer (some ⟨g, 0, none⟩) := rfl
 simp only [execOp, ho, e2, Sem.run_bind, this, Result.andThen_ok, Sem.run_pure]
def allB (h : List (Nat × Blk)) : Nat → Bool
 | 0 => true
 | n + 1 => (match look n h with
   | some _ => allB h n
   | none => false)
theorem allB_of {h : List (Nat × Blk)} : ∀ {m : Nat}, allB h m = true → ∀ n, n < m → (look n h).isSome = true
 | 0, _, n, hn => absurd hn (by omega)
 | m + 1, hb, n, hn => by
   simp only [allB] at hb
   split at hb
   · rename_i B hB
     rcases Nat.lt_or_ge n m with h1 | h1
     · exact allB_of hb n h1
     · obtain rfl : n = m := by omega
       rw [hB]; rfl
   · cases hb
theorem hh_of {fr : Nat} {hS : List (Nat × Blk)} : ∀ {h : List (Nat × Blk)}, leH0 fr hS h → ∀ n B, look n h = some B → n < fr ∧ B.lt fr = true ∧ look (id n) hS = some (B.ren id)
 | [], _, n, B, hB => by simp [look] at hB
 | p :: l, ⟨⟨g1, g2, g3⟩, g4⟩, n, B, hB => by
   rw [look_cons] at hB
   split at hB
   · rename_i e
     obtain rfl := Option.some.inj hB
     subst e
     exact ⟨blt_lt g3, g2, by rw [bren_id]; exact g1⟩
   · exact hh_of g4 n B hB
theorem AKp.call1 {F : Fam} (hF : F = Fam.real) (hτ : TabOK P τ) {n : Nat} (hn : cx.nt = n) {all r : List Oper} {k : List KI} {S : St} {o : Oper} {c : Call} {fo : Operand} {g : FuncId} {fi ca args args' : List AV} {h : List (Nat × Blk)} {fr : Nat} {Qc : AV → List (Nat × Blk) → Nat → Prop}
   (spec : ASpec P g args h fr Qc) (ho : o.op = .call c) (hc : c.callee = .value fo) (hg : guardB all S o = some true) (hd : dstB n o = true)
   (hf : fargs (evl S fo) = some (g, fi, ca)) (hargs : app3 fi (evls S c.args.toList) ca = args') (heq : args' = args) (hlt : lts fr args = true)
   (hall : allB h fr = true) (hh : leH0 fr S.h h)
   (next : ∀ x h' fr', Qc x h' fr' → AKp P cx Q (runC (Ar.of F) τ n 100000 (.ops all r :: k) ((S.after id fr h' fr').put o.dst (x.ren (shift id fr S.fr))))) :
   AKp P cx Q (.ops all (o :: r) :: k, S) :=
 AKp.callN hF hτ hn spec id ho hc hg hd hf (by rw [hargs, heq, rens_id]) hlt (allB_of hall) (hh_of hh) (fun n m _ _ e => e) next
theorem Rel.redesc {X L : Nat → Prop} {w0 : W0} {nt : Nat} {ι : Io} {S : St} {a : Act} {w : World} (H : Rel X L w0 nt ι S a w) {n : Nat} {B0 B1 : Blk} (hb : look n S.h = some B0)
   (h : RepB (rdOf L ι S.h w) ι w n B0 → RepB (rdOf L ι S.h w) ι w n B1) : Rel X L w0 nt ι ⟨S.t, (n, B1) :: del n S.h, S.fr⟩ a w := by
 have hs : ∀ m, (look m ((n, B1) :: del n S.h)).isSome = (look m S.h).isSome := by
   intro m
   rw [look_cons, look_del]
   by_cases e : n = m
   · subst e; rw [if_pos rfl, hb]; rfl
   · rw [if_neg e, if_neg (fun e' => e e'.symm)]
 have hbad : ∀ b, bad L ι ((n, B1) :: del n S.h) b ↔ bad L ι S.h b := by
   intro b
   unfold bad
   simp only [hs]
 have hrd : ∀ b o v, rdOf L ι S.h w b o v → rdOf L ι ((n, B1) :: del n S.h) w b o v := fun b o v ⟨h1, h2⟩ => ⟨fun h3 => h1 ((hbad b).1 h3), h2⟩
 refine ⟨⟨fun m B hm => ?_, fun m k b c l c' l' h1 h2 => H.hr.inj m k b c l c' l' (by rw [← hs]; exact h1) (by rw [← hs]; exact h2), fun m b c l h1 h2 => H.hr.out m b c l (by rw [← hs]; exact h1) h2, H.hr.fresh, H.hr.lb, H.hr.kp, H.hr.old⟩,
   fun t x hx => (H.tm t x hx).mono hrd (fun _ _ h => h), H.sz, H.df⟩
 rw [look_cons] at hm
 split at hm
 · rename_i e
   obtain rfl := Option.some.inj hm
   subst e
   exact (h (H.hr.hp _ _ hb)).mono hrd (fun _ _ h => h) (fun _ _ _ _ => rfl)
 · rename_i e
   rw [look_del, if_neg (fun e' => e e'.symm)] at hm
   exact (H.hr.hp m B hm).mono hrd (fun _ _ h => h) (fun _ _ _ _ => rfl)
theorem AKp.asRowB {kk : List KI} {S : St} (n j : Nat) (E : TypeId) (k : Nat) (hk : 0 < k) {T : TypeId} {cells : List AV} (hb : look n S.h = some (.cs T cells)) (hj : cells[j]? = some (.d (.s .sl0))) (hn : n < S.fr)
   (h : AKp P cx Q (kk, ⟨S.t, (n, .cs T (cells.set j (.row S.fr k))) :: del n ((S.fr, .ds E k []) :: S.h), S.fr + 1⟩)) : AKp P cx Q (kk, S) := by
 intro ι a w H
 obtain ⟨ι', H', hz⟩ := H.fresh (w' := w) (n0 := none) (loc := .nil) (B := .ds E k []) (z := .row S.fr k) (v := .slice none 0 0) (fun b _ _ => rfl) (fun b c l h => by cases h) rfl rfl rfl (Nat.le_refl _)
   (fun R' ι' hR hι hi => .ds0 _ _ hi hk) (fun R' ι' hi => .row0 _ _ _ hi)
 have hb' : look n ((S.fr, .ds E k []) :: S.h) = some (.cs T cells) := by
   rw [look_cons, if_neg (fun e => by simp at e; omega)]
   exact hb
 refine h ι' a w (H'.redesc hb' fun hB => ?_)
 cases hB with
 | cs _ _ b cap l cur hi hbk hl h1 hr =>
   refine .cs _ _ b cap l cur hi hbk (by rw [List.length_set]; exact hl) h1 fun i c v hc hv => ?_
   rw [List.getElem?_set] at hc
   by_cases e : j = i
   · subst e
     have hlt : j < cells.length := (List.getElem?_eq_some_iff.1 hj).1
     rw [if_pos rfl, if_pos hlt] at hc
     obtain rfl := Option.some.inj hc
     have := rep_s (hr j _ v hj hv)
     subst this
     exact hz
   · rw [if_neg e] at hc
     exact hr i c v hc hv
end
end Go.Ua
