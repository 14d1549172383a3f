/- The library of this claim and its walks, part 27, joined out of smaller texts. No statement stands in it. -/
import Derived.Test.YtflpgbkdjelaaaaDoorUaM19
import Derived.Test.YtflpgbkdjelaaaaDoorUaM26
import Derived.Laws.Cover3
/- A slice held against nil. A library of this claim's own: no statement stands in it. -/
namespace Go.Ua
open Go Go.Proofs
set_option linter.unusedVariables false
set_option linter.unusedSectionVars false
section
variable {P : Program} [Globs P] {τ : Tab} {cx : Cx P} {Q : Exit → Act → World → Prop}

/-- One operation, by what it comes to. -/
theorem AKp.stepR {F : Fam} (hF : F = Fam.real) (hτ : TabOK P τ) {n : Nat} (hn : cx.nt = n) {all r : List Oper} {k : List KI} {S S' : St} {o : Oper} (hg : guardB all S o = some true)
    (hs : stepOp (Ar.of F) τ n S o = some S') (next : AKp P cx Q (.ops all r :: k, S')) : AKp P cx Q (.ops all (o :: r) :: k, S) := by
  subst hF
  subst hn
  intro ι a w H
  show wpList P all.toArray (den P cx Q k) (o :: r) a w
  unfold wpList
  rw [guardB_spec H hg, if_pos rfl]
  exact .inl (stepOp_wp hτ H hs fun ι' a' w' H' => next ι' a' w' H')
inductive AKo (P : Program) [Globs P] (cx : Cx P) (Q : Exit → Act → World → Prop) (p : List Oper × List Oper × List KI) : Option St → Prop where
  | some {S' : St} (h : AKp P cx Q (.ops p.1 p.2.1 :: p.2.2, S')) : AKo P cx Q p (some S')
theorem AKp.stepO {F : Fam} (hF : F = Fam.real) (hτ : TabOK P τ) {n : Nat} (hn : cx.nt = n) {all r : List Oper} {k : List KI} {S : St} {o : Oper} (hg : guardB all S o = some true)
    (hs : AKo P cx Q (all, r, k) (stepOp (Ar.of F) τ n S o)) : AKp P cx Q (.ops all (o :: r) :: k, S) := by
  cases ho : stepOp (Ar.of F) τ n S o with
  | none => rw [ho] at hs; cases hs
  | some S' =>
    rw [ho] at hs
    cases hs with
    | some h => exact AKp.stepR hF hτ hn hg ho h
/-- A loop whose round is a tree that stops ahead of some regions. -/
theorem AKl.invTs {F : Fam} (hF : F = Fam.real) (hτ : TabOK P τ) (hm : P.follows .mixedOrders = true) {nn : Nat} (hn : cx.nt = nn) {c : Code} {k : List KI} {S : St} {K : List (Nat × AV)} (h0 : cx.w0.fr ≤ S.fr) (sp : List Nat) (fz : Bool) (G : Tbl) (hG : TblOK P G)
    (I : Nat → List (Nat × AV) → List (Nat × Blk) → Prop) (n : Nat) {vs : List (Nat × AV)} {hs : List (Nat × Blk)}
    (hI : I n vs hs) (h1 : leT0 S.fr S.t (appT vs K)) (h2 : leH0 S.fr S.h hs)
    (round : ∀ (J : St → Prop) n vs hs, (∀ m vs hs, m < n → I m vs hs → J ⟨appT vs K, hs, S.fr⟩) → I n vs hs → AKt P cx Q (Ua.runT F τ nn fz G sp 100000 [] (.code c :: .back J :: k) ⟨appT vs K, hs, S.fr⟩)) : AKl P cx Q c k S K := by
  intro hK
  refine AK.keepL ⟨appT vs K, hs, S.fr⟩ h0 h1 h2 (AK.loop (fun n S' => ∃ vs hs, I n vs hs ∧ S' = ⟨appT vs K, hs, S.fr⟩) n ⟨vs, hs, hI, rfl⟩ ?_)
  rintro n S' ⟨vs, hs, hI, rfl⟩
  refine AK.runTn hF hτ hm hn sp fz G hG h0 (round _ n vs hs ?_ hI)
  intro m vs hs hm hI
  exact ⟨m, hm, vs, hs, hI, rfl⟩
/-! ### Loops of a known number of rounds -/
theorem AK.backMono {c : Code} {k : List KI} {S : St} {J J' : St → Prop} (hJ : ∀ S, J S → J' S) (h : AK P cx Q (.code c :: .back J :: k) S) : AK P cx Q (.code c :: .back J' :: k) S := by
  intro ι a w H
  refine Code.wp_mono ?_ (h ι a w H)
  intro e a' w' hq
  cases e with
  | normal => obtain ⟨S', ι', h1, h2⟩ := hq; exact ⟨S', ι', hJ _ h1, h2⟩
  | exit id => exact hq
  | goto l => exact hq
  | ret => exact hq
  | panic ch => exact hq
  | outgrown => exact hq
def AKround (P : Program) [Globs P] (cx : Cx P) (Q : Exit → Act → World → Prop) (c : Code) (k : List KI) : Nat → St → Prop
  | 0, _ => False
  | n + 1, S => AK P cx Q (.code c :: .back (AKround P cx Q c k n) :: k) S
def RND (P : Program) [Globs P] (cx : Cx P) (Q : Exit → Act → World → Prop) (c : Code) (k : List KI) : Nat → (St → Prop) → Prop
  | 0, _ => True
  | n + 1, J => ∃ J', RND P cx Q c k n J' ∧ ∀ S', AK P cx Q (.code c :: .back J' :: k) S' → J S'
theorem RND_of (c : Code) (k : List KI) : ∀ n, RND P cx Q c k n (AKround P cx Q c k n)
  | 0 => trivial
  | n + 1 => ⟨_, RND_of c k n, fun S' h => h⟩
theorem AKp.unroll (n : Nat) {c : Code} {k : List KI} {S : St} (h : ∀ J, RND P cx Q c k n J → AK P cx Q (.code c :: .back J :: k) S) : AKp P cx Q (.code (.loop c) :: k, S) := by
  refine AK.loop (I := fun n S => AKround P cx Q c k n S) (n + 1) (h _ (RND_of c k n)) ?_
  intro n S hn
  cases n with
  | zero => exact hn.elim
  | succ n => exact AK.backMono (fun S' h' => ⟨n, Nat.lt_succ_self n, h'⟩) hn
theorem AKp.backTo {k : List KI} {S : St} {J : St → Prop} (h : J S) : AKp P cx Q (.back J :: k, S) := fun ι a w H => ⟨S, ι, h, H⟩
end
end Go.Ua

/- Configurations as data: levels, rules, schemas. -/
namespace Go.Proofs.YtflpgbkdjelaaaaDoor
open Go Go.Proofs Go.Ua Go.Extern
set_option linter.unusedVariables false
set_option linter.unusedSimpArgs false

abbrev Wd := List UInt8
structure Lv where
  nm : Wd
  kd : Int
  sh : Int
  ld : Int
  bo : Int
  qu : Int
  ha : Int
  le : Int
  wa : Int
  gu : Int
structure Rl where
  us : List Wd
  gs : List Wd
  vs : List Wd
  rs : List Wd
  ps : List Wd
structure Sm where
  nm : Wd
  lv : Wd
  rk : Int
  bb : Int
  rl : List Rl
structure Cf where
  tt : Int
  pe : Int
  pr : Int
  mo : Int
  ls : List Lv
  ss : List Sm
def Lv.dat (l : Lv) : Dat := .agg [.s (.str l.nm), .s (.int .i64 l.kd), .s (.int .i64 l.sh), .s (.int .i64 l.ld), .s (.int .i64 l.bo), .s (.int .i64 l.qu), .s (.int .i64 l.ha), .s (.int .i64 l.le), .s (.int .i64 l.wa), .s (.int .i64 l.gu)]
def Rl.dat (r : Rl) : Dat := .agg [.view 1 (strDs r.us), .view 1 (strDs r.gs), .view 1 (strDs r.vs), .view 1 (strDs r.rs), .view 1 (strDs r.ps)]
def lvDs (l : List Lv) : List Dat := l.map Lv.dat
def rlDs (l : List Rl) : List Dat := l.map Rl.dat
def Sm.dat (s : Sm) : Dat := .agg [.s (.str s.nm), .s (.str s.lv), .s (.int .i64 s.rk), .s (.int .i64 s.bb), .view 5 (rlDs s.rl)]
def smDs (l : List Sm) : List Dat := l.map Sm.dat
def Cf.cells (c : Cf) : List Dat := [.s (.int .i64 c.tt), .s (.int .i64 c.pe), .s (.int .i64 c.pr), .s (.int .i64 c.mo), .view 10 (lvDs c.ls), .view 5 (smDs c.ss)]
def Cf.dat (c : Cf) : Dat := .agg c.cells
def zeroL : Lv := ⟨[], 0, 0, 0, 0, 0, 0, 0, 0, 0⟩
def zeroR : Rl := ⟨[], [], [], [], []⟩
def zeroS : Sm := ⟨[], [], 0, 0, []⟩
def zeroC : Cf := ⟨0, 0, 0, 0, [], []⟩

def unL : Dat → Lv
  | .agg [.s (.str a), .s (.int .i64 b), .s (.int .i64 c), .s (.int .i64 d), .s (.int .i64 e), .s (.int .i64 f), .s (.int .i64 g), .s (.int .i64 h), .s (.int .i64 i), .s (.int .i64 j)] => ⟨a, b, c, d, e, f, g, h, i, j⟩
  | _ => zeroL
def isL : Dat → Bool
  | .agg [.s (.str a), .s (.int .i64 b), .s (.int .i64 c), .s (.int .i64 d), .s (.int .i64 e), .s (.int .i64 f), .s (.int .i64 g), .s (.int .i64 h), .s (.int .i64 i), .s (.int .i64 j)] => true
  | _ => false
def unR : Dat → Rl
  | .agg [.view 1 a, .view 1 b, .view 1 c, .view 1 d, .view 1 e] => ⟨unStr a, unStr b, unStr c, unStr d, unStr e⟩
  | _ => zeroR
def isR : Dat → Bool
  | .agg [.view 1 a, .view 1 b, .view 1 c, .view 1 d, .view 1 e] => isStrs a && (isStrs b && (isStrs c && (isStrs d && isStrs e)))
  | _ => false
def unLv (es : List Dat) : List Lv := es.map unL
def isLv (es : List Dat) : Bool := es.all isL
def unRl (es : List Dat) : List Rl := es.map unR
def isRl (es : List Dat) : Bool := es.all isR
def unS : Dat → Sm
  | .agg [.s (.str a), .s (.str b), .s (.int .i64 c), .s (.int .i64 d), .view 5 e] => ⟨a, b, c, d, unRl e⟩
  | _ => zeroS
def isS : Dat → Bool
  | .agg [.s (.str a), .s (.str b), .s (.int .i64 c), .s (.int .i64 d), .view 5 e] => isRl e
  | _ => false
def unSm (es : List Dat) : List Sm := es.map unS
def isSm (es : List Dat) : Bool := es.all isS

theorem map_un {α : Type} {f : α → Dat} {g : Dat → α} {p : Dat → Bool} (h : ∀ d, p d = true → f (g d) = d) {es : List Dat} (he : es.all p = true) : (es.map g).map f = es := by
  rw [List.map_map]
  conv => rhs; rw [← List.map_id es]
  exact List.map_congr_left fun d hd => h d (List.all_eq_true.1 he d hd)
theorem un_map {α : Type} {f : α → Dat} {g : Dat → α} (h : ∀ x, g (f x) = x) (l : List α) : (l.map f).map g = l := by
  rw [List.map_map]
  conv => rhs; rw [← List.map_id l]
  exact List.map_congr_left fun e _ => h e
theorem all_map {α : Type} {f : α → Dat} {p : Dat → Bool} (h : ∀ x, p (f x) = true) (l : List α) : (l.map f).all p = true := by
  rw [List.all_map, List.all_eq_true]
  exact fun e _ => h e

theorem l_un {d : Dat} (h : isL d = true) : (unL d).dat = d := by
  unfold isL at h
  split at h
  · rfl
  · cases h
theorem lv_un {es : List Dat} (h : isLv es = true) : lvDs (unLv es) = es := map_un (fun _ => l_un) h
theorem un_lv (l : List Lv) : unLv (lvDs l) = l := un_map (fun _ => rfl) l
theorem is_lv (l : List Lv) : isLv (lvDs l) = true := all_map (fun _ => rfl) l
theorem r_un {d : Dat} (h : isR d = true) : (unR d).dat = d := by
  unfold isR at h
  split at h
  · simp only [Bool.and_eq_true] at h
    obtain ⟨h1, h2, h3, h4, h5⟩ := h
    simp only [unR, Rl.dat, strDs_unStr h1, strDs_unStr h2, strDs_unStr h3, strDs_unStr h4, strDs_unStr h5]
  · cases h
theorem rl_un {es : List Dat} (h : isRl es = true) : rlDs (unRl es) = es := map_un (fun _ => r_un) h
theorem un_r (r : Rl) : unR r.dat = r := by
  unfold Rl.dat
  simp only [unR, unStr_strDs]
theorem is_r (r : Rl) : isR r.dat = true := by
  unfold Rl.dat
  simp only [isR, isStrs_strDs, Bool.and_true]
theorem un_rl (l : List Rl) : unRl (rlDs l) = l := un_map un_r l
theorem is_rl (l : List Rl) : isRl (rlDs l) = true := all_map is_r l
theorem s_un {d : Dat} (h : isS d = true) : (unS d).dat = d := by
  unfold isS at h
  split at h
  · simp only [unS, Sm.dat, rl_un h]
  · cases h
theorem sm_un {es : List Dat} (h : isSm es = true) : smDs (unSm es) = es := map_un (fun _ => s_un) h
theorem un_s (s : Sm) : unS s.dat = s := by
  unfold Sm.dat
  simp only [unS, un_rl]
theorem is_s (s : Sm) : isS s.dat = true := by
  unfold Sm.dat
  simp only [isS, is_rl]
theorem un_sm (l : List Sm) : unSm (smDs l) = l := un_map un_s l
theorem is_sm (l : List Sm) : isSm (smDs l) = true := all_map is_s l
theorem lvDs_len (l : List Lv) : (lvDs l).length = l.length := by simp [lvDs]
theorem rlDs_len (l : List Rl) : (rlDs l).length = l.length := by simp [rlDs]
theorem smDs_len (l : List Sm) : (smDs l).length = l.length := by simp [smDs]
theorem lvDs_get {l : List Lv} {i : Nat} {x : Lv} (h : l[i]? = some x) : (lvDs l)[i]? = some x.dat := by rw [lvDs, List.getElem?_map, h]; rfl
theorem rlDs_get {l : List Rl} {i : Nat} {x : Rl} (h : l[i]? = some x) : (rlDs l)[i]? = some x.dat := by rw [rlDs, List.getElem?_map, h]; rfl
theorem smDs_get {l : List Sm} {i : Nat} {x : Sm} (h : l[i]? = some x) : (smDs l)[i]? = some x.dat := by rw [smDs, List.getElem?_map, h]; rfl
end Go.Proofs.YtflpgbkdjelaaaaDoor

/- Regions that draw their order, in which lists are made and grow. A library of this claim's own: no statement stands in it. -/
namespace Go.Ua
open Go Go.Proofs
set_option linter.unusedVariables false
set_option linter.unusedSimpArgs false
set_option linter.unusedSectionVars false
section
variable {P : Program} [Globs P] {τ : Tab} {cx : Cx P} {Q : Exit → Act → World → Prop}

/-! ### Regions that draw their order, in which lists are made and grow -/
def bs0 (τ : Tab) : Op → Option (Nat × TypeId)
  | .buildSlice t 0 parts => (match parts.toList, bsView τ t 0 [] with
    | [], some (kk, e, []) => some (kk, e)
    | _, _ => none)
  | _ => none
def delH (ns : List Nat) (h : List (Nat × Blk)) : List (Nat × Blk) := match ns with
  | [] => h
  | n :: r => del n (delH r h)
def allLt (m : Nat) : List Nat → Bool
  | [] => true
  | n :: r => (match Nat.blt n m with
    | true => allLt m r
    | false => false)
def apDT (F : Fam) (S : St) (e : TypeId) (y : Ty) (es2 : List Dat) : AV → Option (Bool × List Nat × Nat × TypeId × List Dat)
  | .row n k0 => (match look n S.h with
    | some (.ds E k1 es) => (match Nat.beq E e, Nat.beq k1 y.size, Nat.beq k0 y.size with
      | true, true, true => some (F .fits y.bytes (F .appD es es2), [n], y.size, e, F .appD es es2)
      | _, _, _ => none)
    | _ => none)
  | .d (.s .sl0) => some (F .fits y.bytes es2, [], y.size, e, es2)
  | _ => none
def apD (F : Fam) (τ : Tab) (S : St) : Op → Option (Bool × List Nat × Nat × TypeId × List Dat)
  | .call c => (match c.callee, c.argTypes.toList, c.args.toList with
    | .builtin .append, [t1, t2], [s, x] => (match kindOf τ t1, evl S x with
      | .slice e, .d (.view k es2) => (match look e τ with
        | some y => (match okZero y && (y.size != 0 && y.bytes != 0), Nat.beq t1 t2, Nat.beq k y.size with
          | true, true, true => apDT F S e y es2 (evl S s)
          | _, _, _ => none)
        | none => none)
      | _, _ => none)
    | _, _, _ => none)
  | _ => none
theorem look_delH {q : Nat} {h : List (Nat × Blk)} : ∀ {ns : List Nat}, look q (delH ns h) = if q ∈ ns then none else look q h
  | [] => by simp [delH]
  | a :: r => by
    unfold delH
    rw [look_del, look_delH (ns := r)]
    by_cases e : q = a
    · simp [e]
    · rw [if_neg e]; simp [e]
/-- A step that makes one row, and may take others away. -/
theorem DE.eff1 (hτ : TabOK P τ) {all r : List Oper} {id : Nat} {k : List KI} {S0 S : St} {o : Oper} {E : TypeId} {kk : Nat} {es : List Dat} {ns : List Nat} {fps : List Fp} (hw0 : cx.w0.fr ≤ S0.fr) (hle : S0.fr ≤ S.fr) (hns : allLt S.fr ns = true)
    (hc : ∀ S1 : St, (∀ x, x ∈ o.op.operands.toList → evl S1 x = evl S x) → (∀ n, n ∈ ns → look n S1.h = look n S.h) → effOp Ar.real τ S1 o.op = some (.row S1.fr kk, ⟨S1.t, (S1.fr, .ds E kk es) :: delH ns S1.h, S1.fr + 1⟩))
    (hg : guardB all S o = some true) (hd : ∀ d, o.dst = some d → d < cx.nt)
    (next : DE P cx Q all id k S0 (fps ++ [(ns, ns ++ [S.fr])]) r (St.put ⟨S.t, (S.fr, .ds E kk es) :: delH ns S.h, S.fr + 1⟩ o.dst (.row S.fr kk))) : DE P cx Q all id k S0 fps (o :: r) S := by
  refine DE.snoc (.row S.fr kk) _ (ns, ns ++ [S.fr]) (fun j hj => ⟨by cases o.dst <;> rfl, fun q hq => ?_, by rw [put_fr]; exact Nat.le_succ _, ?_⟩) next
  · simp only [List.mem_append, List.mem_singleton, not_or] at hq
    rw [put_h]
    simp only [look_cons]
    rw [if_neg (fun e => hq.2 e.symm), look_delH, if_neg hq.1]
  intro Q' K ι S1 a w H hfr h1 h2 h3 hK
  rw [put_fr] at hfr h3
  simp only at hfr h3
  have hN : ι S.fr = none := h3 _ (Nat.le_refl _) (Nat.lt_succ_self _)
  have hlt : S.fr < S1.fr := hfr
  unfold wpOp
  rw [show all.toArray[j]? = some o by simpa using hj]
  simp only
  rw [guardB_spec H (by rw [guardB_congr h1]; exact hg), if_pos rfl]
  have heff := hc S1 (evl_looks h1) (fun n hn => h2 n (.inl hn))
  obtain ⟨v, w', ι', hrun, H1, hrep⟩ := effOp_run hτ H heff
  have H' := H1.put hd hrep
  refine .inl ?_
  have hne : K (a.put o.dst v) w' → o.wp P a w K Q' := by
    intro hk
    unfold Oper.wp
    rcases hrun with hrun | ⟨hrun, rfl⟩
    · rw [hrun]; exact hk
    · rw [hrun]; exact hk
  refine hne ?_
  let rr : Nat → Nat := fun n => if n = S.fr then S1.fr else if S0.fr ≤ n ∧ (ι n).isNone = true then S1.fr + 1 + n + 1 else n
  have rN : rr S.fr = S1.fr := by show (if S.fr = S.fr then _ else _) = _; rw [if_pos rfl]
  have rO : ∀ n p, ι n = some p → rr n = n := fun n p h => by
    show (if n = S.fr then _ else if S0.fr ≤ n ∧ (ι n).isNone = true then _ else n) = n
    rw [if_neg (fun e => by rw [e, hN] at h; cases h), h, if_neg (by simp)]
  have old : ∀ n B, look n S1.h = some B → n < S1.fr ∧ B.lt S1.fr = true ∧ rr n = n ∧ B.ren rr = B := fun n B hB => by
    have hb := H.hr.hp n B hB
    obtain ⟨g1, g2⟩ := hb.lt_of H.hr.fresh
    obtain ⟨g3, g4⟩ := RepB.fix rO hb
    exact ⟨g1, g2, g3, g4⟩
  obtain ⟨S2, hS2⟩ : ∃ S2, S2 = St.put ⟨S1.t, (S.fr, .ds E kk es) :: delH ns S1.h, S1.fr⟩ o.dst (.row S.fr kk) := ⟨_, rfl⟩
  have hle2 : St.le rr (St.put ⟨S1.t, (S1.fr, .ds E kk es) :: delH ns S1.h, S1.fr + 1⟩ o.dst (.row S1.fr kk)) S2 := by
    subst hS2
    refine ⟨fun t y h => ?_, fun n B hB => ?_, fun n m g1 g2 g3 => ?_⟩
    · rw [put_fr]
      have key : ∀ y, look t S1.t = some y → y.lt S1.fr = true ∧ y.ren rr = y := fun y h => by
        have hv := H.tm t y h
        exact ⟨hv.lt_of H.hr.fresh, RepV.fix rO _ _ hv⟩
      cases hdst : o.dst with
      | none =>
        rw [hdst] at h
        obtain ⟨g1, g2⟩ := key y h
        exact ⟨g1, .inl (by rw [g2]; exact h)⟩
      | some d =>
        rw [hdst] at h
        simp only [St.put, look_cons, look_del] at h ⊢
        split at h
        · rename_i e
          obtain rfl := Option.some.inj h
          exact ⟨by simpa [AV.lt, Nat.blt_eq] using hlt, .inl (by rw [if_pos e]; show some (AV.row S1.fr kk) = some (AV.row (rr S.fr) kk); rw [rN])⟩
        · rename_i e
          split at h
          · cases h
          · rename_i e2
            obtain ⟨g1, g2⟩ := key y h
            exact ⟨g1, .inl (by rw [if_neg e, if_neg e2, g2]; exact h)⟩
    · rw [put_h] at hB
      rw [put_fr, put_h]
      simp only [look_cons] at hB ⊢
      split at hB
      · rename_i e
        obtain rfl := Option.some.inj hB
        subst e
        refine ⟨hlt, rfl, ?_⟩
        rw [rN, if_pos rfl]
        rfl
      · rename_i hn
        rw [look_delH] at hB
        split at hB
        · cases hB
        rename_i hq
        obtain ⟨q1, q2, q3, q4⟩ := old n B hB
        refine ⟨q1, q2, ?_⟩
        rw [q3, q4, if_neg (by omega), look_delH, if_neg hq]
        exact hB
    · rw [put_h] at g1 g2
      have cl : ∀ n, (look n ((S.fr, Blk.ds E kk es) :: delH ns S1.h)).isSome = true → n = S.fr ∨ (rr n = n ∧ n < S1.fr) := fun n hn => by
        rw [look_cons] at hn
        split at hn
        · rename_i e
          exact .inl e.symm
        · rw [look_delH] at hn
          split at hn
          · cases hn
          · obtain ⟨B, hB⟩ := Option.isSome_iff_exists.1 hn
            obtain ⟨q1, q2, q3, q4⟩ := old n B hB
            exact .inr ⟨q3, q1⟩
      rcases cl n g1 with e1 | ⟨a1, a2⟩ <;> rcases cl m g2 with e2 | ⟨b1, b2⟩
      · rw [e1, e2]
      · rw [e1, rN, b1] at g3; omega
      · rw [e2, rN, a1] at g3; omega
      · rw [a1, b1] at g3; exact g3
  have hold : ∀ n, n < cx.w0.fr → n < S2.fr ∧ rr n = n := fun n hn => by
    subst hS2
    rw [put_fr]
    refine ⟨by show n < S1.fr; omega, ?_⟩
    show (if n = S.fr then _ else if S0.fr ≤ n ∧ (ι n).isNone = true then _ else n) = n
    rw [if_neg (by omega), if_neg (by omega)]
  obtain ⟨l1, l2, l3⟩ := hle2
  obtain ⟨g1, g2, g3⟩ := H'.hr.keep hold l2 l3
  have fin : Rel cx.X cx.L cx.w0 cx.nt (fun n => if n < S2.fr then ι' (rr n) else none) S2 (a.put o.dst v) w' := by
    refine ⟨g1, fun t y hy => ?_, H'.sz, H'.df⟩
    obtain ⟨h4, h5⟩ := l1 t y hy
    rcases h5 with h5 | rfl
    · exact ((H'.tm t _ h5).ren_inv g3 y h4 rfl).mono g2 (fun _ _ h => h)
    · exact .any _
  refine hK _ _ w' S2 ?_ (fun q hq => ?_) (fun q hq => ?_) ?_ (fun q hq hι hout => ?_) fin
  · subst hS2; cases o.dst <;> rfl
  · subst hS2
    rw [put_h, put_h]
    simp only [look_cons]
    split
    · rfl
    · rename_i hne
      rw [look_delH, look_delH]
      split
      · rfl
      · rename_i hq2
        simp only [List.mem_append, List.mem_singleton] at hq
        rcases hq with hq | hq
        · exact absurd hq hq2
        · exact absurd hq.symm hne
  · subst hS2
    simp only [List.mem_append, List.mem_singleton, not_or] at hq
    rw [put_h]
    simp only [look_cons]
    rw [if_neg (fun e => hq.2 e.symm), look_delH, if_neg hq.1]
  · subst hS2; rw [put_fr]
  · rw [put_fr] at hout
    simp only at hout
    show (if q < S2.fr then ι' (rr q) else none) = none
    split
    · have er : rr q = S1.fr + 1 + q + 1 := by
        show (if q = S.fr then _ else if S0.fr ≤ q ∧ (ι q).isNone = true then _ else q) = _
        rw [if_neg (by omega), hι, if_pos ⟨hq, rfl⟩]
      rw [er]
      exact H'.hr.fresh _ (by rw [put_fr]; show S1.fr + 1 ≤ _; omega)
    · rfl
theorem DE.bs0 (hτ : TabOK P τ) {all r : List Oper} {id : Nat} {k : List KI} {S0 S : St} {o : Oper} {kk : Nat} {e : TypeId} {fps : List Fp} (hw0 : cx.w0.fr ≤ S0.fr) (hle : S0.fr ≤ S.fr) (hc : bs0 τ o.op = some (kk, e)) (hg : guardB all S o = some true) (hd : ∀ d, o.dst = some d → d < cx.nt)
    (next : DE P cx Q all id k S0 (fps ++ [([], [S.fr])]) r (St.put ⟨S.t, (S.fr, .ds e kk []) :: S.h, S.fr + 1⟩ o.dst (.row S.fr kk))) : DE P cx Q all id k S0 fps (o :: r) S := by
  refine DE.eff1 (ns := []) hτ hw0 hle rfl (fun S1 h1 h2 => ?_) hg hd next
  unfold Ua.bs0 at hc
  split at hc
  · rename_i t parts ho
    split at hc
    · rename_i k2 e2 hp hv
      simp only [Option.some.injEq, Prod.mk.injEq] at hc
      obtain ⟨rfl, rfl⟩ := hc
      simp only [effOp, ho, hp, evps]
      exact bsView_op hv S1
    · cases hc
  · cases hc
theorem apD_eff {S : St} {op : Op} {ns : List Nat} {kk : Nat} {e : TypeId} {es : List Dat} (hc : apD Fam.real τ S op = some (true, ns, kk, e, es)) (S1 : St) (h1 : ∀ x, x ∈ op.operands.toList → evl S1 x = evl S x) (h2 : ∀ n, n ∈ ns → look n S1.h = look n S.h) :
    effOp Ar.real τ S1 op = some (.row S1.fr kk, ⟨S1.t, (S1.fr, .ds e kk es) :: delH ns S1.h, S1.fr + 1⟩) := by
  unfold apD at hc
  split at hc
  · rename_i c
    split at hc
    · rename_i t1 t2 s x q1 q2 q3
      have es_ : evl S1 s = evl S s := h1 s (by simp [Op.operands, Call.operands, q1, q3])
      have ex_ : evl S1 x = evl S x := h1 x (by simp [Op.operands, Call.operands, q1, q3])
      split at hc
      · rename_i e1 k es2 hk hx
        split at hc
        · rename_i y hy
          split at hc
          · rename_i c1 c2 c3
            simp only [effOp, q1, q2, q3, appendOp, hk, hy, c1, c2, es_, ex_, hx, srcOf]
            rw [if_pos (Nat.eq_of_beq_eq_true c3)]
            unfold apDT at hc
            split at hc
            · rename_i n k0 hs
              split at hc
              · rename_i E k1 es0 hl
                split at hc
                · rename_i b1 b2 b3
                  simp only [Option.some.injEq, Prod.mk.injEq] at hc
                  obtain ⟨hf, rfl, rfl, rfl, rfl⟩ := hc
                  simp only [appG, hs]
                  rw [h2 n (by simp), hl]
                  simp only
                  rw [if_pos ⟨Nat.eq_of_beq_eq_true b1, Nat.eq_of_beq_eq_true b2, Nat.eq_of_beq_eq_true b3⟩]
                  have e1 : Ar.real.fits y.bytes (Ar.real.appD es0 es2) = true := hf
                  rw [e1]
                  rfl
                · cases hc
              · cases hc
            · rename_i hs
              simp only [Option.some.injEq, Prod.mk.injEq] at hc
              obtain ⟨hf, rfl, rfl, rfl, rfl⟩ := hc
              have e1 : Ar.real.fits y.bytes es2 = true := hf
              simp only [appG, hs, e1]
              rfl
            · cases hc
          · cases hc
        · cases hc
      · cases hc
    · cases hc
  · cases hc
theorem DE.apD (hτ : TabOK P τ) {all r : List Oper} {id : Nat} {k : List KI} {S0 S : St} {o : Oper} {b : Bool} {ns : List Nat} {kk : Nat} {e : TypeId} {es : List Dat} {fps : List Fp} (hw0 : cx.w0.fr ≤ S0.fr) (hle : S0.fr ≤ S.fr) (hc : apD Fam.real τ S o.op = some (b, ns, kk, e, es)) (hb : b = true) (hns : allLt S.fr ns = true)
    (hg : guardB all S o = some true) (hd : ∀ d, o.dst = some d → d < cx.nt)
    (next : DE P cx Q all id k S0 (fps ++ [(ns, ns ++ [S.fr])]) r (St.put ⟨S.t, (S.fr, .ds e kk es) :: delH ns S.h, S.fr + 1⟩ o.dst (.row S.fr kk))) : DE P cx Q all id k S0 fps (o :: r) S := by
  subst hb
  exact DE.eff1 hτ hw0 hle hns (fun S1 h1 h2 => apD_eff hc S1 h1 h2) hg hd next

def runD2 (F : Fam) (τ : Tab) (nt : Nat) (G : Tbl) (all : List Oper) (st : Tree) (K : List Oper → List Nat → St → Tree) : Nat → Nat → List Fp → List Nat → List Oper → St → Tree
  | 0, _, _, _, _, _ => st
  | f + 1, j, fps, dc, [], S => (match chkE fps all with
    | true => K [] dc S
    | false => st)
  | f + 1, j, fps, dc, o :: r, S => (match chkTail all j (o :: r) with
    | true => (match chkE fps all with
      | true => K (o :: r) dc S
      | false => st)
    | false => (match askG dc all S o with
      | some (d, b) => .node b (runD2 F τ nt G all st K f j fps (d :: dc) (o :: r) (S.lit d true)) (runD2 F τ nt G all st K f j fps (d :: dc) (o :: r) (S.lit d false))
      | none => (match (match o.dst with
          | some d => Nat.blt d nt
          | none => true), guardB all S o with
        | true, some true => (match askP dc S o.op with
          | some (d, b) => .node b (runD2 F τ nt G all st K f j fps (d :: dc) (o :: r) (S.lit d true)) (runD2 F τ nt G all st K f j fps (d :: dc) (o :: r) (S.lit d false))
          | none => (match callT τ G S o.op with
            | some (b, z) => .need b (runD2 F τ nt G all st K f (j + 1) (fps ++ [([], [])]) (dcP dc o.dst false) r (S.put o.dst z))
            | none => (match callN G S o.op with
            | some (b, x, h', fr') => .need b (runD2 F τ nt G all st K f (j + 1) (fps ++ [([], rngN S.fr fr')]) (dcP dc o.dst false) r (St.put ⟨S.t, appH (renH (nxt S.fr) h') S.h, S.fr + fr'⟩ o.dst (x.ren (nxt S.fr))))
            | none => (match opT F τ dc S o.op with
              | some (b, z) => .need b (runD2 F τ nt G all st K f (j + 1) (fps ++ [(topNs S o.op.operands.toList, [])]) (dcP dc o.dst (litO dc S o.op)) r (S.put o.dst z))
              | none => (match bs0 τ o.op with
                | some (kk, e) => runD2 F τ nt G all st K f (j + 1) (fps ++ [([], [S.fr])]) (dcP dc o.dst false) r (St.put ⟨S.t, (S.fr, .ds e kk []) :: S.h, S.fr + 1⟩ o.dst (.row S.fr kk))
                | none => (match apD F τ S o.op with
                | some (b, ns, kk, e, es) => (match allLt S.fr ns with
                  | true => .need b (runD2 F τ nt G all st K f (j + 1) (fps ++ [(ns, ns ++ [S.fr])]) (dcP dc o.dst false) r (St.put ⟨S.t, (S.fr, .ds e kk es) :: delH ns S.h, S.fr + 1⟩ o.dst (.row S.fr kk)))
                  | false => st)
                | none => (match viewO τ S o.op with
                | some z => runD2 F τ nt G all st K f (j + 1) (fps ++ [([], [])]) (dcP dc o.dst false) r (S.put o.dst z)
                | none => (match pureOp (Ar.of F) τ S o.op with
                    | some z => runD2 F τ nt G all st K f (j + 1) (fps ++ [(topNs S o.op.operands.toList, [])]) (dcP dc o.dst (litO dc S o.op)) r (S.put o.dst z)
                    | none => (match o.op with
                      | .alloc t => (match look t τ with
                        | some y => (match okZero y with
                          | true => runD2 F τ nt G all st K f (j + 1) (fps ++ [([], [S.fr])]) (dcP dc o.dst false) r ((S.new (.cs t (zcells y))).put o.dst (.ptr S.fr 0 0 y.size))
                          | false => st)
                        | none => st)
                      | .store t p x => (match evl S p, sizeAt τ t with
                        | .ptr n i off k, _ + 1 => (match storeB (Ar.of F) τ t i off k (evl S x) (look n S.h) with
                          | some B => runD2 F τ nt G all st K f (j + 1) (fps ++ [([], [n])]) (dcP dc o.dst false) r ((S.wr n B).put o.dst (.tup []))
                          | none => st)
                        | _, _ => st)
                      | _ => st)))))))))
        | true, some false => runD2 F τ nt G all st K f (j + 1) (fps ++ [([], [])]) (dcP dc o.dst false) r (S.put o.dst (.tup []))
        | _, _ => st)))
theorem runD2_ok (hτ : TabOK P τ) (hm : P.follows .mixedOrders = true) {G : Tbl} (hG : TblOK P G) {all : List Oper} {id : Nat} {k : List KI} {S0 : St} (hw0 : cx.w0.fr ≤ S0.fr) {st : Tree} {K : List Oper → List Nat → St → Tree}
    (hst : AKm P cx Q st → AK P cx Q (.code (.region id all.toArray true) :: k) S0) (hK : ∀ rest dc S, cx.w0.fr ≤ S.fr → AKm P cx Q (K rest dc S) → AK P cx Q (.ops all rest :: k) S) :
    ∀ (f j : Nat) (fps : List Fp) (dc : List Nat) (r : List Oper) (S : St), S0.fr ≤ S.fr → AKm P cx Q (runD2 Fam.real τ cx.nt G all st K f j fps dc r S) → DE P cx Q all id k S0 fps r S
  | 0, j, fps, dc, r, S, h0, h => fun _ _ _ _ _ _ => hst (by unfold runD2 at h; exact h)
  | f + 1, j, fps, dc, [], S, h0, h => by
    unfold runD2 at h
    split at h
    · rename_i hc
      exact DE.fin hm hc (hK _ _ _ (Nat.le_trans hw0 h0) h)
    · exact fun _ _ _ _ _ _ => hst h
  | f + 1, j, fps, dc, o :: r, S, h0, h => by
    have ih := runD2_ok hτ hm hG hw0 hst hK f
    have hp : ∀ z, S0.fr ≤ (S.put o.dst z).fr := fun z => by rw [put_fr]; exact h0
    have ask : ∀ (d : Nat) (b : Bool), look d S.t = some (.d (.s (.bool b))) → AKm P cx Q (.node b (runD2 Fam.real τ cx.nt G all st K f j fps (d :: dc) (o :: r) (S.lit d true)) (runD2 Fam.real τ cx.nt G all st K f j fps (d :: dc) (o :: r) (S.lit d false))) → DE P cx Q all id k S0 fps (o :: r) S := by
      intro d b hl h
      cases b
      · have := ih _ _ _ _ _ (by rw [lit_fr]; exact h0) (h.2 rfl)
        rwa [lit_id hl] at this
      · have := ih _ _ _ _ _ (by rw [lit_fr]; exact h0) (h.1 rfl)
        rwa [lit_id hl] at this
    unfold runD2 at h
    split at h
    · split at h
      · rename_i hc
        exact DE.fin hm hc (hK _ _ _ (Nat.le_trans hw0 h0) h)
      · exact fun _ _ _ _ _ _ => hst h
    · split at h
      · rename_i d b hask
        exact ask d b (askG_look hask) h
      · split at h
        · rename_i hd hg
          split at h
          · rename_i d b hask
            exact ask d b (askP_look hask) h
          · split at h
            · rename_i b z hc
              exact DE.callT hG hw0 h0 hc h.1 hg (dst_lt hd) (ih _ _ _ _ _ (hp _) (h.2 h.1))
            · split at h
              · rename_i b x h' fr' hc
                exact DE.callN hG hw0 h0 hc h.1 hg (dst_lt hd) (ih _ _ _ _ _ (by rw [put_fr]; exact Nat.le_trans h0 (Nat.le_add_right _ _)) (h.2 h.1))
              split at h
              · rename_i b z hc
                exact DE.pure hτ (opT_pure hc h.1) hg (dst_lt hd) (ih _ _ _ _ _ (hp _) (h.2 h.1))
              · split at h
                · rename_i kk e hc
                  exact DE.bs0 hτ hw0 h0 hc hg (dst_lt hd) (ih _ _ _ _ _ (by rw [put_fr]; exact Nat.le_trans h0 (Nat.le_succ _)) h)
                split at h
                · rename_i b ns kk e es hc
                  split at h
                  · rename_i hlt
                    exact DE.apD hτ hw0 h0 hc h.1 hlt hg (dst_lt hd) (ih _ _ _ _ _ (by rw [put_fr]; exact Nat.le_trans h0 (Nat.le_succ _)) (h.2 h.1))
                  · exact fun _ _ _ _ _ _ => hst h
                split at h
                · rename_i z hv
                  exact DE.viewO hτ hw0 h0 hv hg (dst_lt hd) (ih _ _ _ _ _ (hp _) h)
                · split at h
                  · rename_i z hz
                    exact DE.pure hτ hz hg (dst_lt hd) (ih _ _ _ _ _ (hp _) h)
                  · · split at h
                      · rename_i t ho
                        split at h
                        · rename_i y hy
                          split at h
                          · rename_i hz
                            exact DE.alloc hτ ho hy hz hg (dst_lt hd) (ih _ _ _ _ _ (by rw [put_fr]; exact Nat.le_trans h0 (Nat.le_succ _)) h)
                          · exact fun _ _ _ _ _ _ => hst h
                        · exact fun _ _ _ _ _ _ => hst h
                      · rename_i t p x ho
                        split at h
                        · rename_i n i off k' m hp' hs
                          split at h
                          · rename_i B hB
                            exact DE.store hτ ho hp' hs hB hg (dst_lt hd) (ih _ _ _ _ _ (by rw [put_fr]; exact h0) h)
                          · exact fun _ _ _ _ _ _ => hst h
                        · exact fun _ _ _ _ _ _ => hst h
                      · exact fun _ _ _ _ _ _ => hst h
        · rename_i hd hg
          exact DE.skip hg (dst_lt hd) (ih _ _ _ _ _ (hp _) h)
        · exact fun _ _ _ _ _ _ => hst h

theorem AKp.runD2 {F : Fam} (hF : F = Fam.real) (hτ : TabOK P τ) (hm : P.follows .mixedOrders = true) {n : Nat} (hn : cx.nt = n) (fz : Bool) (G : Tbl) (hG : TblOK P G) {id : Nat} {ops : Array Oper} {k : List KI} {S : St} (h0 : cx.w0.fr ≤ S.fr)
    (h : AKt P cx Q (runD2 F τ n G ops.toList (.leaf (.code (.region id ops true) :: k) S) (fun rest dc S => Ua.runT F τ n fz G [] 100000 dc (.ops ops.toList rest :: k) S) 10000 0 [] [] ops.toList S)) : AKp P cx Q (.code (.region id ops true) :: k, S) := by
  subst hF
  subst hn
  have := runD2_ok (P := P) (cx := cx) (Q := Q) (id := id) (k := k) (S0 := S) (all := ops.toList) (st := .leaf (.code (.region id ops true) :: k) S) hτ hm hG h0 (fun h => h) (fun rest dc S h0 h => AK.stepT hτ hm hG fz [] _ dc _ S h0 h) _ _ _ _ _ _ (Nat.le_refl _) h.m
  exact DE.start this
/-- Many paths come together, with blocks under other names: what follows is looked at once. -/
theorem AKp.joinR (rs : List (Nat × Nat)) {K k : List KI} (hK : K = k) {S : St} (S' : St) (h0 : cx.w0.fr = 0) (h1 : leT (rnm rs) S'.fr S.t S'.t) (h2 : leH (rnm rs) S'.fr S.h S'.h) (h3 : nodupB (keysR rs S'.h) = true) (h : AK P cx Q K S') : AKp P cx Q (k, S) := by
  subst hK
  exact AK.weaken (rnm rs) (fun n hn => by omega) (St.le_of h1 h2 (keys_inj h3)) h
end
end Go.Ua

/- The end of a function that was handed blocks and leaves others: rows renamed by appends. A library of this claim's own: no statement stands in it. -/
namespace Go.Ua
open Go Go.Proofs Go.RowKit
set_option linter.unusedVariables false
set_option linter.unusedSimpArgs false
set_option linter.unusedSectionVars false

def outI (ns : List Nat) (h : List (Nat × Blk)) : List Nat → Nat → Option (List (Nat × Blk))
  | [], _ => some []
  | n :: r, i => (match look n h with
    | some B => (match B.inN ns, outI ns h r (i + 1) with
      | true, some l => some ((i, B.ren (fun n => posN n ns)) :: l)
      | _, _ => none)
    | none => outI ns h r (i + 1))
theorem outI_ok {ns : List Nat} {h : List (Nat × Blk)} : ∀ {l : List Nat} {i : Nat} {hh : List (Nat × Blk)}, outI ns h l i = some hh →
    ∀ n B, look n hh = some B → i ≤ n ∧ n < i + l.length ∧ ∃ B0, look (nthN l (n - i)) h = some B0 ∧ B0.inN ns = true ∧ B = B0.ren (fun n => posN n ns)
  | [], i, hh, e => by
    obtain rfl := Option.some.inj e
    intro n B h
    simp [look] at h
  | m :: r, i, hh, e => by
    unfold outI at e
    have rest : ∀ {l}, outI ns h r (i + 1) = some l → ∀ n B, look n l = some B → i ≤ n ∧ n < i + (m :: r).length ∧ ∃ B0, look (nthN (m :: r) (n - i)) h = some B0 ∧ B0.inN ns = true ∧ B = B0.ren (fun n => posN n ns) := by
      intro l hl n B hB
      obtain ⟨g1, g2, B0, g3, g4, g5⟩ := outI_ok hl n B hB
      have hn : n - i = (n - (i + 1)) + 1 := by omega
      refine ⟨by omega, by simp only [List.length_cons]; omega, B0, ?_, g4, g5⟩
      rw [hn]
      exact g3
    split at e
    · rename_i B0 hB0
      split at e
      · rename_i l hin hl
        obtain rfl := Option.some.inj e
        intro n B hB
        rw [look_cons] at hB
        split at hB
        · rename_i e2
          obtain rfl := Option.some.inj hB
          simp only at e2
          subst e2
          exact ⟨Nat.le_refl _, by simp, B0, by rw [Nat.sub_self]; exact hB0, hin, rfl⟩
        · exact rest hl n B hB
      · cases e
    · exact rest e
def hold0 : List Nat → Nat → Nat → Bool
  | _, 0, _ => true
  | m :: r, k + 1, i => (match Nat.beq m i with
    | true => hold0 r k (i + 1)
    | false => false)
  | [], _ + 1, _ => false
theorem hold0_ok : ∀ {ns : List Nat} {k i : Nat}, hold0 ns k i = true → ∀ n, n < k → n < ns.length ∧ nthN ns n = n + i
  | _, 0, _, _, n, hn => by omega
  | [], k + 1, i, h, _, _ => by simp [hold0] at h
  | m :: r, k + 1, i, h, n, hn => by
    unfold hold0 at h
    split at h
    · rename_i e
      cases n with
      | zero => exact ⟨by simp, by simp [nthN, Nat.eq_of_beq_eq_true e]⟩
      | succ n =>
        obtain ⟨g1, g2⟩ := hold0_ok h n (by omega)
        exact ⟨by simp only [List.length_cons]; omega, by simp only [nthN, g2]; omega⟩
    · cases h

section
variable {P : Program} [Globs P] {τ : Tab} {cx : Cx P} {Q : Exit → Act → World → Prop}
theorem finI_of {fn : Func} (hτ : TabOK P τ) {S : St} (ns : List Nat) {l : List AV} {X : AV} {h' H : List (Nat × Blk)} {fr0 m : Nat} (h0 : cx.w0.fr = fr0) (hres : resAV τ S fn.results.toList = some l)
    (hin : (tupAV l).inN ns = true) (ho : outI ns S.h ns 0 = some h') (hd : nodupB ns = true) (hold : hold0 ns fr0 0 = true) (hm : ns.length = m) (hx : (tupAV l).ren (fun n => posN n ns) = X) (hH : h' = H) :
    ∀ ι a w, Rel cx.X cx.L cx.w0 cx.nt ι S a w → fin P fn cx (fun y h1 fr1 => y = X ∧ h1 = H ∧ fr1 = m) .ret a w ∧ fin P fn cx (fun y h1 fr1 => y = X ∧ h1 = H ∧ fr1 = m) .normal a w := by
  subst hx hH hm h0
  obtain ⟨b1, b2⟩ := ren_back ns (tupAV l) hin
  have hk : keeps (nthN ns) ns.length S.h h' := by
    intro n B hB
    obtain ⟨g1, g2, B0, g3, g4, rfl⟩ := outI_ok ho n B hB
    obtain ⟨c1, c2⟩ := bren_back g4
    exact ⟨by simpa using g2, c2, by rw [c1]; simpa using g3⟩
  refine fin_of (cx := cx) hτ hres (nthN ns) (x := (tupAV l).ren (fun n => posN n ns)) (h' := h') (fr' := ns.length) b1.symm b2 (fun n hn => ?_) hk (fun n m h1 h2 e => ?_) ⟨rfl, rfl, rfl⟩
  · have := hold0_ok hold n hn
    exact ⟨this.1, by simpa using this.2⟩
  · obtain ⟨B, hB⟩ := Option.isSome_iff_exists.1 h1
    obtain ⟨C, hC⟩ := Option.isSome_iff_exists.1 h2
    exact nthN_inj hd n m (hk n B hB).1 (hk m C hC).1 e
theorem AKp.doneI {fn : Func} (hτ : TabOK P τ) {S : St} (ns : List Nat) {l : List AV} {X : AV} {h' H : List (Nat × Blk)} {fr0 m : Nat} (h0 : cx.w0.fr = fr0) (hres : resAV τ S fn.results.toList = some l)
    (hin : (tupAV l).inN ns = true) (ho : outI ns S.h ns 0 = some h') (hd : nodupB ns = true) (hold : hold0 ns fr0 0 = true) (hm : ns.length = m) (hx : (tupAV l).ren (fun n => posN n ns) = X) (hH : h' = H) {k : List KI} :
    AKp P cx (fin P fn cx (fun y h1 fr1 => y = X ∧ h1 = H ∧ fr1 = m)) (.code .ret :: k, S) :=
  AK.ret fun ι a w r => (finI_of hτ ns h0 hres hin ho hd hold hm hx hH ι a w r).1
theorem AKp.endI {fn : Func} (hτ : TabOK P τ) {S : St} (ns : List Nat) {l : List AV} {X : AV} {h' H : List (Nat × Blk)} {fr0 m : Nat} (h0 : cx.w0.fr = fr0) (hres : resAV τ S fn.results.toList = some l)
    (hin : (tupAV l).inN ns = true) (ho : outI ns S.h ns 0 = some h') (hd : nodupB ns = true) (hold : hold0 ns fr0 0 = true) (hm : ns.length = m) (hx : (tupAV l).ren (fun n => posN n ns) = X) (hH : h' = H) :
    AKp P cx (fin P fn cx (fun y h1 fr1 => y = X ∧ h1 = H ∧ fr1 = m)) ([], S) :=
  AK.end fun ι a w r => (finI_of hτ ns h0 hres hin ho hd hold hm hx hH ι a w r).2
/-- A cell that holds a nil pointer is told as: nil, or its own block's head. -/
theorem AKp.asOpt {kk : List KI} {S : St} (n j : Nat) {T : TypeId} {cells : List AV} (hb : look n S.h = some (.cs T cells)) (hj : cells[j]? = some (.d (.s .ptr0)))
    (h : AKp P cx Q (kk, ⟨S.t, (n, .cs T (cells.set j (.opt n))) :: del n S.h, S.fr⟩)) : AKp P cx Q (kk, S) := by
  intro ι a w H
  refine h ι a w (H.redesc hb fun hB => ?_)
  cases hB with
  | cs _ _ b cap l cur hi hbk hl h1 hr =>
    refine .cs _ _ b cap l cur hi hbk (by rw [List.length_set]; exact hl) h1 fun i c v hc hv => ?_
    rw [List.getElem?_set] at hc
    by_cases e : j = i
    · subst e
      have hlt : j < cells.length := (List.getElem?_eq_some_iff.1 hj).1
      rw [if_pos rfl, if_pos hlt] at hc
      obtain rfl := Option.some.inj hc
      have := rep_s (hr j _ v hj hv)
      subst this
      exact .opt n b cap l _ hi (.inl rfl)
    · rw [if_neg e] at hc
      exact hr i c v hc hv
end
end Go.Ua

