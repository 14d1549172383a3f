/- The library of this claim and its walks, part 27, joined out of smaller texts. No statement stands in it. -/
import Derived.Test.YtljidkmppeaecaaDoorUaM19
import Derived.Test.YtljidkmppeaecaaDoorUaM26
import Derived.Laws.Cover3
/- A slice held against nil. A library of this claim's own: no statement stands in it. -/
namespace Go.Ua
open Go Go.Proofs
set_option linter.unusedVariables false
set_option linter.unusedSectionVars false
section
variable {P : Program} [Globs P] {τ : Tab} {cx : Cx P} {Q : Exit → Act → World → Prop}

/-- Whether a slice is nil, that is told as a list: what is nil is empty. -/
theorem AKp.isNil (hτ : TabOK P τ) {n : Nat} (hn : cx.nt = n) {all r : List Oper} {k : List KI} {S : St} {o : Oper} {t e : TypeId} {xo yo : Operand} {u : TypeId} {kk : Nat} {es : List Dat}
    (ho : o.op = .binOp .eql t xo yo u) (hx : evl S xo = .d (.view kk es)) (hy : evl S yo = .d (.s .sl0)) (hk : kindOf τ t = .slice e) (hg : guardB all S o = some true) (hd : dstB n o = true)
    (h : ∀ b : Bool, (b = true → es = []) → AKp P cx Q (.ops all r :: k, S.put o.dst (.d (.s (.bool b))))) : AKp P cx Q (.ops all (o :: r) :: k, S) := by
  intro ι a w H
  show wpList P all.toArray (den P cx Q k) (o :: r) a w
  unfold wpList
  rw [guardB_spec H hg, if_pos rfl]
  refine .inl ?_
  have hvx := H.evl xo
  have hvy := H.evl yo
  rw [hx] at hvx
  rw [hy] at hvy
  have ey := rep_s hvy
  obtain ⟨d, i, y, _, _, hu, _, _, hk'⟩ := kindOf_run hτ hk (fun _ _ => trivial) (by simp)
  simp only [TK.ok] at hk'
  subst hk'
  have hd' := dstB_lt (by rw [← hn] at hd; exact hd)
  obtain ⟨ad, l, c, hv, he⟩ : ∃ (ad : Option Addr) (l c : Nat), a.eval xo = .slice ad l c ∧ (ad.isNone = true → es = []) := by
    generalize a.eval xo = v at hvx
    cases rep_d hvx with
    | nil k => exact ⟨none, 0, 0, rfl, fun _ => rfl⟩
    | view k es ad cap f => exact ⟨some ad, _, cap, rfl, fun h => by cases h⟩
  have hrun : (execOp a.eval o).run P w = .ok (.value (.bool ad.isNone)) w := by
    have heq := run_equal_slice_nil (P := P) w t e ad l c hu
    simp only [execOp, ho, hv, ey, Sc.val]
    simp only [Sem.run_bind]
    rw [eqGuard_plain (P := P) (w := w) (op := .eql) (t := t) (xo := xo) (yo := yo) (v := .slice ad l c) (u := .slice none 0 0) (.inl ⟨by simp, by simp⟩)]
    simp [Go.binOp, heq]
  unfold Oper.wp
  rw [hrun]
  have := h ad.isNone he ι (a.put o.dst (.bool ad.isNone)) w (H.put hd' (.d _ _ (.s (.bool _) trivial)))
  exact this
/-- One operation, by what it comes to. -/
theorem AKp.stepR {F : Fam} (hF : F = Fam.real) (hτ : TabOK P τ) {n : Nat} (hn : cx.nt = n) {all r : List Oper} {k : List KI} {S S' : St} {o : Oper} (hg : guardB all S o = some true)
    (hs : stepOp (Ar.of F) τ n S o = some S') (next : AKp P cx Q (.ops all r :: k, S')) : AKp P cx Q (.ops all (o :: r) :: k, S) := by
  subst hF
  subst hn
  intro ι a w H
  show wpList P all.toArray (den P cx Q k) (o :: r) a w
  unfold wpList
  rw [guardB_spec H hg, if_pos rfl]
  exact .inl (stepOp_wp hτ H hs fun ι' a' w' H' => next ι' a' w' H')
inductive AKo (P : Program) [Globs P] (cx : Cx P) (Q : Exit → Act → World → Prop) (p : List Oper × List Oper × List KI) : Option St → Prop where
  | some {S' : St} (h : AKp P cx Q (.ops p.1 p.2.1 :: p.2.2, S')) : AKo P cx Q p (some S')
theorem AKp.stepO {F : Fam} (hF : F = Fam.real) (hτ : TabOK P τ) {n : Nat} (hn : cx.nt = n) {all r : List Oper} {k : List KI} {S : St} {o : Oper} (hg : guardB all S o = some true)
    (hs : AKo P cx Q (all, r, k) (stepOp (Ar.of F) τ n S o)) : AKp P cx Q (.ops all (o :: r) :: k, S) := by
  cases ho : stepOp (Ar.of F) τ n S o with
  | none => rw [ho] at hs; cases hs
  | some S' =>
    rw [ho] at hs
    cases hs with
    | some h => exact AKp.stepR hF hτ hn hg ho h
/-- A loop whose round is a tree that stops ahead of some regions. -/
theorem AKl.invTs {F : Fam} (hF : F = Fam.real) (hτ : TabOK P τ) (hm : P.follows .mixedOrders = true) {nn : Nat} (hn : cx.nt = nn) {c : Code} {k : List KI} {S : St} {K : List (Nat × AV)} (h0 : cx.w0.fr ≤ S.fr) (sp : List Nat) (fz : Bool) (G : Tbl) (hG : TblOK P G)
    (I : Nat → List (Nat × AV) → List (Nat × Blk) → Prop) (n : Nat) {vs : List (Nat × AV)} {hs : List (Nat × Blk)}
    (hI : I n vs hs) (h1 : leT0 S.fr S.t (appT vs K)) (h2 : leH0 S.fr S.h hs)
    (round : ∀ (J : St → Prop) n vs hs, (∀ m vs hs, m < n → I m vs hs → J ⟨appT vs K, hs, S.fr⟩) → I n vs hs → AKt P cx Q (Ua.runT F τ nn fz G sp 100000 [] (.code c :: .back J :: k) ⟨appT vs K, hs, S.fr⟩)) : AKl P cx Q c k S K := by
  intro hK
  refine AK.keepL ⟨appT vs K, hs, S.fr⟩ h0 h1 h2 (AK.loop (fun n S' => ∃ vs hs, I n vs hs ∧ S' = ⟨appT vs K, hs, S.fr⟩) n ⟨vs, hs, hI, rfl⟩ ?_)
  rintro n S' ⟨vs, hs, hI, rfl⟩
  refine AK.runTn hF hτ hm hn sp fz G hG h0 (round _ n vs hs ?_ hI)
  intro m vs hs hm hI
  exact ⟨m, hm, vs, hs, hI, rfl⟩
/-! ### Loops of a known number of rounds -/
theorem AK.backMono {c : Code} {k : List KI} {S : St} {J J' : St → Prop} (hJ : ∀ S, J S → J' S) (h : AK P cx Q (.code c :: .back J :: k) S) : AK P cx Q (.code c :: .back J' :: k) S := by
  intro ι a w H
  refine Code.wp_mono ?_ (h ι a w H)
  intro e a' w' hq
  cases e with
  | normal => obtain ⟨S', ι', h1, h2⟩ := hq; exact ⟨S', ι', hJ _ h1, h2⟩
  | exit id => exact hq
  | goto l => exact hq
  | ret => exact hq
  | panic ch => exact hq
  | outgrown => exact hq
def AKround (P : Program) [Globs P] (cx : Cx P) (Q : Exit → Act → World → Prop) (c : Code) (k : List KI) : Nat → St → Prop
  | 0, _ => False
  | n + 1, S => AK P cx Q (.code c :: .back (AKround P cx Q c k n) :: k) S
def RND (P : Program) [Globs P] (cx : Cx P) (Q : Exit → Act → World → Prop) (c : Code) (k : List KI) : Nat → (St → Prop) → Prop
  | 0, _ => True
  | n + 1, J => ∃ J', RND P cx Q c k n J' ∧ ∀ S', AK P cx Q (.code c :: .back J' :: k) S' → J S'
theorem RND_of (c : Code) (k : List KI) : ∀ n, RND P cx Q c k n (AKround P cx Q c k n)
  | 0 => trivial
  | n + 1 => ⟨_, RND_of c k n, fun S' h => h⟩
theorem AKp.unroll (n : Nat) {c : Code} {k : List KI} {S : St} (h : ∀ J, RND P cx Q c k n J → AK P cx Q (.code c :: .back J :: k) S) : AKp P cx Q (.code (.loop c) :: k, S) := by
  refine AK.loop (I := fun n S => AKround P cx Q c k n S) (n + 1) (h _ (RND_of c k n)) ?_
  intro n S hn
  cases n with
  | zero => exact hn.elim
  | succ n => exact AK.backMono (fun S' h' => ⟨n, Nat.lt_succ_self n, h'⟩) hn
theorem AKp.backTo {k : List KI} {S : St} {J : St → Prop} (h : J S) : AKp P cx Q (.back J :: k, S) := fun ι a w H => ⟨S, ι, h, H⟩
end
end Go.Ua

/- Configurations as data: levels, rules, schemas. -/
namespace Go.Proofs.YtljidkmppeaecaaDoor
open Go Go.Proofs Go.Ua Go.Extern
set_option linter.unusedVariables false
set_option linter.unusedSimpArgs false

abbrev Wd := List UInt8
structure Lv where
  nm : Wd
  kd : Int
  sh : Int
  ld : Int
  bo : Int
  qu : Int
  ha : Int
  le : Int
  wa : Int
  gu : Int
structure Rl where
  us : List Wd
  gs : List Wd
  vs : List Wd
  rs : List Wd
  ps : List Wd
structure Sm where
  nm : Wd
  lv : Wd
  rk : Int
  bb : Int
  rl : List Rl
structure Cf where
  tt : Int
  pe : Int
  pr : Int
  mo : Int
  ls : List Lv
  ss : List Sm
def Lv.dat (l : Lv) : Dat := .agg [.s (.str l.nm), .s (.int .i64 l.kd), .s (.int .i64 l.sh), .s (.int .i64 l.ld), .s (.int .i64 l.bo), .s (.int .i64 l.qu), .s (.int .i64 l.ha), .s (.int .i64 l.le), .s (.int .i64 l.wa), .s (.int .i64 l.gu)]
def Rl.dat (r : Rl) : Dat := .agg [.view 1 (strDs r.us), .view 1 (strDs r.gs), .view 1 (strDs r.vs), .view 1 (strDs r.rs), .view 1 (strDs r.ps)]
def lvDs (l : List Lv) : List Dat := l.map Lv.dat
def rlDs (l : List Rl) : List Dat := l.map Rl.dat
def Sm.dat (s : Sm) : Dat := .agg [.s (.str s.nm), .s (.str s.lv), .s (.int .i64 s.rk), .s (.int .i64 s.bb), .view 5 (rlDs s.rl)]
def smDs (l : List Sm) : List Dat := l.map Sm.dat
def Cf.cells (c : Cf) : List Dat := [.s (.int .i64 c.tt), .s (.int .i64 c.pe), .s (.int .i64 c.pr), .s (.int .i64 c.mo), .view 10 (lvDs c.ls), .view 5 (smDs c.ss)]
def Cf.dat (c : Cf) : Dat := .agg c.cells
def zeroL : Lv := ⟨[], 0, 0, 0, 0, 0, 0, 0, 0, 0⟩
def zeroR : Rl := ⟨[], [], [], [], []⟩
def zeroS : Sm := ⟨[], [], 0, 0, []⟩
def zeroC : Cf := ⟨0, 0, 0, 0, [], []⟩

def unL : Dat → Lv
  | .agg [.s (.str a), .s (.int .i64 b), .s (.int .i64 c), .s (.int .i64 d), .s (.int .i64 e), .s (.int .i64 f), .s (.int .i64 g), .s (.int .i64 h), .s (.int .i64 i), .s (.int .i64 j)] => ⟨a, b, c, d, e, f, g, h, i, j⟩
  | _ => zeroL
def isL : Dat → Bool
  | .agg [.s (.str a), .s (.int .i64 b), .s (.int .i64 c), .s (.int .i64 d), .s (.int .i64 e), .s (.int .i64 f), .s (.int .i64 g), .s (.int .i64 h), .s (.int .i64 i), .s (.int .i64 j)] => true
  | _ => false
def unR : Dat → Rl
  | .agg [.view 1 a, .view 1 b, .view 1 c, .view 1 d, .view 1 e] => ⟨unStr a, unStr b, unStr c, unStr d, unStr e⟩
  | _ => zeroR
def isR : Dat → Bool
  | .agg [.view 1 a, .view 1 b, .view 1 c, .view 1 d, .view 1 e] => isStrs a && (isStrs b && (isStrs c && (isStrs d && isStrs e)))
  | _ => false
def unLv (es : List Dat) : List Lv := es.map unL
def isLv (es : List Dat) : Bool := es.all isL
def unRl (es : List Dat) : List Rl := es.map unR
def isRl (es : List Dat) : Bool := es.all isR
def unS : Dat → Sm
  | .agg [.s (.str a), .s (.str b), .s (.int .i64 c), .s (.int .i64 d), .view 5 e] => ⟨a, b, c, d, unRl e⟩
  | _ => zeroS
def isS : Dat → Bool
  | .agg [.s (.str a), .s (.str b), .s (.int .i64 c), .s (.int .i64 d), .view 5 e] => isRl e
  | _ => false
def unSm (es : List Dat) : List Sm := es.map unS
def isSm (es : List Dat) : Bool := es.all isS

theorem map_un {α : Type} {f : α → Dat} {g : Dat → α} {p : Dat → Bool} (h : ∀ d, p d = true → f (g d) = d) {es : List Dat} (he : es.all p = true) : (es.map g).map f = es := by
  rw [List.map_map]
  conv => rhs; rw [← List.map_id es]
  exact List.map_congr_left fun d hd => h d (List.all_eq_true.1 he d hd)
theorem un_map {α : Type} {f : α → Dat} {g : Dat → α} (h : ∀ x, g (f x) = x) (l : List α) : (l.map f).map g = l := by
  rw [List.map_map]
  conv => rhs; rw [← List.map_id l]
  exact List.map_congr_left fun e _ => h e
theorem all_map {α : Type} {f : α → Dat} {p : Dat → Bool} (h : ∀ x, p (f x) = true) (l : List α) : (l.map f).all p = true := by
  rw [List.all_map, List.all_eq_true]
  exact fun e _ => h e

theorem l_un {d : Dat} (h : isL d = true) : (unL d).dat = d := by
  unfold isL at h
  split at h
  · rfl
  · cases h
theorem lv_un {es : List Dat} (h : isLv es = true) : lvDs (unLv es) = es := map_un (fun _ => l_un) h
theorem un_lv (l : List Lv) : unLv (lvDs l) = l := un_map (fun _ => rfl) l
theorem is_lv (l : List Lv) : isLv (lvDs l) = true := all_map (fun _ => rfl) l
theorem r_un {d : Dat} (h : isR d = true) : (unR d).dat = d := by
  unfold isR at h
  split at h
  · simp only [Bool.and_eq_true] at h
    obtain ⟨h1, h2, h3, h4, h5⟩ := h
    simp only [unR, Rl.dat, strDs_unStr h1, strDs_unStr h2, strDs_unStr h3, strDs_unStr h4, strDs_unStr h5]
  · cases h
theorem rl_un {es : List Dat} (h : isRl es = true) : rlDs (unRl es) = es := map_un (fun _ => r_un) h
theorem un_r (r : Rl) : unR r.dat = r := by
  unfold Rl.dat
  simp only [unR, unStr_strDs]
theorem is_r (r : Rl) : isR r.dat = true := by
  unfold Rl.dat
  simp only [isR, isStrs_strDs, Bool.and_true]
theorem un_rl (l : List Rl) : unRl (rlDs l) = l := un_map un_r l
theorem is_rl (l : List Rl) : isRl (rlDs l) = true := all_map is_r l
theorem s_un {d : Dat} (h : isS d = true) : (unS d).dat = d := by
  unfold isS at h
  split at h
  · simp only [unS, Sm.dat, rl_un h]
  · cases h
theorem sm_un {es : List Dat} (h : isSm es = true) : smDs (unSm es) = es := map_un (fun _ => s_un) h
theorem un_s (s : Sm) : unS s.dat = s := by
  unfold Sm.dat
  simp only [unS, un_rl]
theorem is_s (s : Sm) : isS s.dat = true := by
  unfold Sm.dat
  simp only [isS, is_rl]
theorem un_sm (l : List Sm) : unSm (smDs l) = l := un_map un_s l
theorem is_sm (l : List Sm) : isSm (smDs l) = true := all_map is_s l
theorem lvDs_len (l : List Lv) : (lvDs l).length = l.length := by simp [lvDs]
theorem rlDs_len (l : List Rl) : (rlDs l).length = l.length := by simp [rlDs]
theorem smDs_len (l : List Sm) : (smDs l).length = l.length := by simp [smDs]
theorem lvDs_get {l : List Lv} {i : Nat} {x : Lv} (h : l[i]? = some x) : (lvDs l)[i]? = some x.dat := by rw [lvDs, List.getElem?_map, h]; rfl
theorem rlDs_get {l : List Rl} {i : Nat} {x : Rl} (h : l[i]? = some x) : (rlDs l)[i]? = some x.dat := by rw [rlDs, List.getElem?_map, h]; rfl
theorem smDs_get {l : List Sm} {i : Nat} {x : Sm} (h : l[i]? = some x) : (smDs l)[i]? = some x.dat := by rw [smDs, List.getElem?_map, h]; rfl
end Go.Proofs.YtljidkmppeaecaaDoor

/- What a line says of a configuration; what is formed: plain laws. -/
namespace Go.Proofs.YtljidkmppeaecaaDoor
open Go Go.Proofs Go.Ua Go.Extern
set_option linter.unusedVariables false
set_option linter.unusedSimpArgs false

def TOTAL : Wd := [116, 111, 116, 97, 108]
def PERIOD : Wd := [112, 101, 114, 105, 111, 100]
def SEATS : Wd := [115, 101, 97, 116, 115]
def LEVEL : Wd := [108, 101, 118, 101, 108]
def SCHEMA : Wd := [115, 99, 104, 101, 109, 97]
def RULE : Wd := [114, 117, 108, 101]
def EXEMPT : Wd := [101, 120, 101, 109, 112, 116]
def REJECT : Wd := [114, 101, 106, 101, 99, 116]
def QUEUE : Wd := [113, 117, 101, 117, 101]
def ALLW : Wd := [97, 108, 108]
def NONE : Wd := [110, 111, 110, 101]
def USER : Wd := [117, 115, 101, 114]
def SPACE : Wd := [115, 112, 97, 99, 101]

/-- The word at a place. -/
def wAt (w : List Wd) (i : Nat) : Wd := w.getD i []

def totE (c : Cf) (w : List Wd) : Int := if w.length ≠ 2 then 2 else if numB (wAt w 1) 1 4096 = false then 8 else if c.tt ≠ 0 then 5 else 0
def perE (c : Cf) (w : List Wd) : Int := if w.length ≠ 2 then 2 else if numB (wAt w 1) 1 1000 = false then 8 else if c.pe ≠ 0 then 5 else 0
def seaE (c : Cf) (w : List Wd) : Int := if w.length ≠ 3 then 2 else if (numB (wAt w 1) 1 1048576 && numB (wAt w 2) 1 16) = false then 8 else if c.pr ≠ 0 then 5 else 0

def kindL (w : List Wd) : Int := if w.length = 3 ∧ wAt w 2 = EXEMPT then 1 else if w.length = 6 ∧ wAt w 5 = REJECT then 2 else if w.length = 11 ∧ wAt w 5 = QUEUE then 3 else 0
def borB (x : Wd) : Bool := decide (x = ALLW) || numB x 0 1000
def borV (x : Wd) : Int := if x = ALLW then -1 else numV x 0 1000
def limB (w : List Wd) : Bool := numB (wAt w 2) 0 10000 && (numB (wAt w 3) 0 100 && borB (wAt w 4))
def queB (w : List Wd) : Bool := numB (wAt w 6) 1 64 && (numB (wAt w 7) 1 8 && (numB (wAt w 8) 1 64 && (numB (wAt w 9) 1 1000 && numB (wAt w 10) 1 1000)))
def lvOf (w : List Wd) : Lv :=
  if kindL w = 1 then ⟨wAt w 1, 1, 0, 0, 0, 0, 0, 0, 0, 0⟩
  else if kindL w = 2 then ⟨wAt w 1, 2, numV (wAt w 2) 0 10000, numV (wAt w 3) 0 100, borV (wAt w 4), 0, 0, 0, 0, 0⟩
  else ⟨wAt w 1, 3, numV (wAt w 2) 0 10000, numV (wAt w 3) 0 100, borV (wAt w 4), numV (wAt w 6) 1 64, numV (wAt w 7) 1 8, numV (wAt w 8) 1 64, numV (wAt w 9) 1 1000, numV (wAt w 10) 1 1000⟩
def hasL (l : List Lv) (n : Wd) : Bool := l.any fun x => decide (x.nm = n)
def hasM (l : List Sm) (n : Wd) : Bool := l.any fun x => decide (x.nm = n)
def levE (c : Cf) (w : List Wd) : Int :=
  if kindL w = 0 then 2 else if nameF (wAt w 1) = false then 4 else if kindL w ≠ 1 ∧ limB w = false then 8 else if kindL w = 3 ∧ queB w = false then 8
  else if hasL c.ls (wAt w 1) = true then 5 else if 16 ≤ c.ls.length then 3 else 0

def byB (x : Wd) : Bool := decide (x = NONE) || (decide (x = USER) || decide (x = SPACE))
def byV (x : Wd) : Int := if x = USER then 1 else if x = SPACE then 2 else 0
def smOf (w : List Wd) : Sm := ⟨wAt w 1, wAt w 2, numV (wAt w 3) 1 10000, byV (wAt w 4), []⟩
def schE (c : Cf) (w : List Wd) : Int :=
  if w.length ≠ 5 then 2 else if (nameF (wAt w 1) && nameF (wAt w 2)) = false then 4 else if numB (wAt w 3) 1 10000 = false then 8 else if byB (wAt w 4) = false then 2
  else if hasM c.ss (wAt w 1) = true then 5 else if 32 ≤ c.ss.length then 3 else 0

def lisV (x : Wd) : List Wd := (listF x).getD []
def rlOf (w : List Wd) : Rl := ⟨lisV (wAt w 1), lisV (wAt w 2), lisV (wAt w 3), lisV (wAt w 4), lisV (wAt w 5)⟩
def lisB (w : List Wd) : Bool := listB (wAt w 1) && (listB (wAt w 2) && (listB (wAt w 3) && (listB (wAt w 4) && listB (wAt w 5))))
def lastR (c : Cf) : List Rl := (c.ss.getLastD zeroS).rl
def rulE (c : Cf) (w : List Wd) : Int :=
  if w.length ≠ 6 ∨ c.ss = [] then 2 else if lisB w = false then 2 else if 8 ≤ (lastR c).length then 3 else 0
def addR (l : List Sm) (r : Rl) : List Sm := l.dropLast ++ [⟨(l.getLastD zeroS).nm, (l.getLastD zeroS).lv, (l.getLastD zeroS).rk, (l.getLastD zeroS).bb, (l.getLastD zeroS).rl ++ [r]⟩]

def linE (c : Cf) (w : List Wd) : Int :=
  if wAt w 0 = TOTAL then totE c w else if wAt w 0 = PERIOD then perE c w else if wAt w 0 = SEATS then seaE c w
  else if wAt w 0 = LEVEL then levE c w else if wAt w 0 = SCHEMA then schE c w else if wAt w 0 = RULE then rulE c w else 2
/-- What a line adds, where it says anything. -/
def linA (c : Cf) (w : List Wd) : Cf :=
  if wAt w 0 = TOTAL then { c with tt := numV (wAt w 1) 1 4096 } else if wAt w 0 = PERIOD then { c with pe := numV (wAt w 1) 1 1000 }
  else if wAt w 0 = SEATS then { c with pr := numV (wAt w 1) 1 1048576, mo := numV (wAt w 2) 1 16 }
  else if wAt w 0 = LEVEL then { c with ls := c.ls ++ [lvOf w] } else if wAt w 0 = SCHEMA then { c with ss := c.ss ++ [smOf w] } else { c with ss := addR c.ss (rlOf w) }
def linC (c : Cf) (w : List Wd) : Cf := if linE c w = 0 then linA c w else c

/-! ### What is formed -/
def inB (n a b : Int) : Bool := decide (a ≤ n) && decide (n ≤ b)
def levOK (l : Lv) : Bool := nameF l.nm &&
  (if l.kd = 1 then decide (l.sh = 0) && (decide (l.ld = 0) && (decide (l.bo = 0) && (decide (l.qu = 0) && (decide (l.ha = 0) && (decide (l.le = 0) && (decide (l.wa = 0) && decide (l.gu = 0)))))))
   else if l.kd = 2 then (decide (l.qu = 0) && (decide (l.ha = 0) && (decide (l.le = 0) && (decide (l.wa = 0) && decide (l.gu = 0))))) && (inB l.sh 0 10000 && (inB l.ld 0 100 && inB l.bo (-1) 1000))
   else if l.kd = 3 then (inB l.qu 1 64 && (inB l.ha 1 8 && (inB l.le 1 64 && (inB l.wa 1 1000 && inB l.gu 1 1000)))) && (inB l.sh 0 10000 && (inB l.ld 0 100 && inB l.bo (-1) 1000))
   else false)
def rlOK (r : Rl) : Bool := goodF r.us && (goodF r.gs && (goodF r.vs && (goodF r.rs && goodF r.ps)))
def smOK (s : Sm) : Bool := nameF s.nm && (nameF s.lv && (inB s.rk 1 10000 && (inB s.bb 0 2 && (decide (s.rl.length ≤ 8) && s.rl.all rlOK))))
/-- One by one: each is right, and has a name of its own. -/
def allL : List Lv → List Lv → Bool
  | _, [] => true
  | p, x :: r => levOK x && (!hasL p x.nm && allL (p ++ [x]) r)
def allM : List Sm → List Sm → Bool
  | _, [] => true
  | p, x :: r => smOK x && (!hasM p x.nm && allM (p ++ [x]) r)
def formC (c : Cf) : Bool := inB c.tt 0 4096 && (inB c.pe 0 1000 && (inB c.pr 0 1048576 && (inB c.mo 0 16 && (decide (c.pr = 0 ↔ c.mo = 0) && (decide (c.ls.length ≤ 16) && (decide (c.ss.length ≤ 32) && (allL [] c.ls && allM [] c.ss)))))))

theorem allL_app : ∀ (a p b : List Lv), allL p (a ++ b) = (allL p a && allL (p ++ a) b)
  | [], p, b => by simp [allL]
  | x :: a, p, b => by simp [allL, allL_app a, List.append_assoc, Bool.and_assoc]
theorem allM_app : ∀ (a p b : List Sm), allM p (a ++ b) = (allM p a && allM (p ++ a) b)
  | [], p, b => by simp [allM]
  | x :: a, p, b => by simp [allM, allM_app a, List.append_assoc, Bool.and_assoc]
theorem allL_snoc (a : List Lv) (x : Lv) : allL [] (a ++ [x]) = (allL [] a && (levOK x && !hasL a x.nm)) := by simp [allL_app, allL]
theorem allM_snoc (a : List Sm) (x : Sm) : allM [] (a ++ [x]) = (allM [] a && (smOK x && !hasM a x.nm)) := by simp [allM_app, allM]
theorem num_in {w : Wd} {a b : Int} (h : numB w a b = true) : inB (numV w a b) a b = true ∧ Lib.decDigits (numV w a b).toNat = w ∧ 0 ≤ numV w a b := by
  unfold numB at h
  unfold numV
  cases hn : numberF w a b with
  | none => rw [hn] at h; cases h
  | some v =>
    unfold numberF at hn
    split at hn
    · rename_i hc
      obtain rfl := Option.some.inj hn
      obtain ⟨h1, h2, h3⟩ := hc
      have hf := h1
      simp only [numForm, Bool.and_eq_true, decide_eq_true_eq] at h1
      refine ⟨?_, ?_, ?_⟩
      · simp only [Option.getD_some, inB, Bool.and_eq_true, decide_eq_true_eq]
        exact ⟨h2, h3⟩
      · simp only [Option.getD_some, Int.toNat_natCast]
        have := num_dig h1.2 h1.1.1.2
        rw [hf] at this
        exact of_decide_eq_true this.symm
      · simp
    · cases hn
theorem lev_ok {c : Cf} {w : List Wd} (h : levE c w = 0) : levOK (lvOf w) = true ∧ hasL c.ls (lvOf w).nm = false ∧ c.ls.length < 16 := by
  unfold levE at h
  split at h; · cases h
  rename_i h0
  split at h; · cases h
  rename_i h1
  split at h; · cases h
  rename_i h2
  split at h; · cases h
  rename_i h3
  split at h; · cases h
  rename_i h4
  split at h; · cases h
  rename_i h5
  have hk : kindL w = 1 ∨ kindL w = 2 ∨ kindL w = 3 := by
    unfold kindL at h0 ⊢
    split
    · simp
    · split
      · simp
      · split
        · simp
        · rename_i a b c; rw [if_neg a, if_neg b, if_neg c] at h0; exact absurd rfl h0
  have hn : (lvOf w).nm = wAt w 1 := by unfold lvOf; split; rfl; split; rfl; rfl
  rw [hn]
  have h1' : nameF (wAt w 1) = true := by simpa using h1
  refine ⟨?_, by simpa using h4, by omega⟩
  unfold levOK
  rw [hn, h1', Bool.true_and]
  have lim : kindL w ≠ 1 → inB (numV (wAt w 2) 0 10000) 0 10000 = true ∧ inB (numV (wAt w 3) 0 100) 0 100 = true ∧ inB (borV (wAt w 4)) (-1) 1000 = true := fun hk1 => by
    have hl : limB w = true := by
      cases hl : limB w with
      | true => rfl
      | false => exact absurd ⟨hk1, hl⟩ h2
    simp only [limB, Bool.and_eq_true] at hl
    obtain ⟨g1, g2, g3⟩ := hl
    refine ⟨(num_in g1).1, (num_in g2).1, ?_⟩
    unfold borV
    split
    · rfl
    · rename_i hne
      unfold borB at g3
      rw [decide_eq_false hne, Bool.false_or] at g3
      have := (num_in g3).1
      simp only [inB, Bool.and_eq_true, decide_eq_true_eq] at this ⊢
      omega
  rcases hk with hk | hk | hk
  · have e : lvOf w = ⟨wAt w 1, 1, 0, 0, 0, 0, 0, 0, 0, 0⟩ := by unfold lvOf; rw [if_pos hk]
    rw [e]
    rfl
  · have e : lvOf w = ⟨wAt w 1, 2, numV (wAt w 2) 0 10000, numV (wAt w 3) 0 100, borV (wAt w 4), 0, 0, 0, 0, 0⟩ := by unfold lvOf; rw [if_neg (by rw [hk]; decide), if_pos hk]
    rw [e]
    obtain ⟨g1, g2, g3⟩ := lim (by rw [hk]; decide)
    simp [g1, g2, g3]
  · have e : lvOf w = ⟨wAt w 1, 3, numV (wAt w 2) 0 10000, numV (wAt w 3) 0 100, borV (wAt w 4), numV (wAt w 6) 1 64, numV (wAt w 7) 1 8, numV (wAt w 8) 1 64, numV (wAt w 9) 1 1000, numV (wAt w 10) 1 1000⟩ := by
      unfold lvOf; rw [if_neg (by rw [hk]; decide), if_neg (by rw [hk]; decide)]
    rw [e]
    obtain ⟨g1, g2, g3⟩ := lim (by rw [hk]; decide)
    have hq : queB w = true := by
      cases hq : queB w with
      | true => rfl
      | false => exact absurd ⟨hk, hq⟩ h3
    simp only [queB, Bool.and_eq_true] at hq
    obtain ⟨q1, q2, q3, q4, q5⟩ := hq
    simp [g1, g2, g3, (num_in q1).1, (num_in q2).1, (num_in q3).1, (num_in q4).1, (num_in q5).1]

theorem sch_ok {c : Cf} {w : List Wd} (h : schE c w = 0) : smOK (smOf w) = true ∧ hasM c.ss (smOf w).nm = false ∧ c.ss.length < 32 := by
  unfold schE at h
  split at h; · cases h
  rename_i h0
  split at h; · cases h
  rename_i h1
  split at h; · cases h
  rename_i h2
  split at h; · cases h
  rename_i h3
  split at h; · cases h
  rename_i h4
  split at h; · cases h
  rename_i h5
  simp only [Bool.not_eq_false, Bool.and_eq_true] at h1 h2 h3
  refine ⟨?_, by simpa [smOf] using h4, by omega⟩
  have hb : inB (byV (wAt w 4)) 0 2 = true := by
    unfold byV
    split
    · rfl
    · split <;> rfl
  simp [smOK, smOf, h1.1, h1.2, (num_in h2).1, hb]

theorem list_good {x : Wd} (h : listB x = true) : goodF (lisV x) = true ∧ joinF (lisV x) = x := by
  unfold listB at h
  unfold lisV
  cases hl : listF x with
  | none => rw [hl] at h; cases h
  | some m =>
    have hj := join_list hl
    refine ⟨?_, by simpa using hj⟩
    simp only [Option.getD_some]
    unfold listF at hl
    split at hl
    · obtain rfl := Option.some.inj hl
      rfl
    · split at hl
      · cases hl
      · split at hl
        · rename_i hg
          obtain rfl := Option.some.inj hl
          exact hg
        · cases hl

theorem last_split {l : List Sm} (h : l ≠ []) : l = l.dropLast ++ [l.getLastD zeroS] := by
  rw [List.getLastD_eq_getLast?, List.getLast?_eq_some_getLast h]
  exact (List.dropLast_concat_getLast h).symm

theorem line_formed {c : Cf} {w : List Wd} (hc : formC c = true) (h : linE c w = 0) : formC (linA c w) = true := by
  simp only [formC, Bool.and_eq_true, decide_eq_true_eq] at hc
  obtain ⟨c1, c2, c3, c4, c5, c6, c7, c8, c9⟩ := hc
  unfold linE at h
  unfold linA
  split at h
  · rename_i e
    rw [if_pos e]
    unfold totE at h
    split at h; · cases h
    split at h; · cases h
    rename_i h1
    simp only [formC, Bool.and_eq_true, decide_eq_true_eq]
    refine ⟨?_, c2, c3, c4, c5, c6, c7, c8, c9⟩
    have := (num_in (by simpa using h1)).1
    simp only [inB, Bool.and_eq_true, decide_eq_true_eq] at this ⊢
    omega
  split at h
  · rename_i e0 e
    rw [if_neg e0, if_pos e]
    unfold perE at h
    split at h; · cases h
    split at h; · cases h
    rename_i h1
    simp only [formC, Bool.and_eq_true, decide_eq_true_eq]
    refine ⟨c1, ?_, c3, c4, c5, c6, c7, c8, c9⟩
    have := (num_in (by simpa using h1)).1
    simp only [inB, Bool.and_eq_true, decide_eq_true_eq] at this ⊢
    omega
  split at h
  · rename_i e0 e1 e
    rw [if_neg e0, if_neg e1, if_pos e]
    unfold seaE at h
    split at h; · cases h
    split at h; · cases h
    rename_i h1
    simp only [Bool.not_eq_false, Bool.and_eq_true] at h1
    have g1 := (num_in h1.1).1
    have g2 := (num_in h1.2).1
    simp only [inB, Bool.and_eq_true, decide_eq_true_eq] at g1 g2
    simp only [formC, Bool.and_eq_true, decide_eq_true_eq]
    refine ⟨c1, c2, ?_, ?_, ?_, c6, c7, c8, c9⟩
    · simp only [inB, Bool.and_eq_true, decide_eq_true_eq]; omega
    · simp only [inB, Bool.and_eq_true, decide_eq_true_eq]; omega
    · constructor <;> intro <;> omega
  split at h
  · rename_i e0 e1 e2 e
    rw [if_neg e0, if_neg e1, if_neg e2, if_pos e]
    obtain ⟨g1, g2, g3⟩ := lev_ok h
    simp only [formC, Bool.and_eq_true, decide_eq_true_eq]
    refine ⟨c1, c2, c3, c4, c5, by simp; omega, c7, ?_, c9⟩
    rw [allL_snoc, c8, g1, g2]
    rfl
  split at h
  · rename_i e0 e1 e2 e3 e
    rw [if_neg e0, if_neg e1, if_neg e2, if_neg e3, if_pos e]
    obtain ⟨g1, g2, g3⟩ := sch_ok h
    simp only [formC, Bool.and_eq_true, decide_eq_true_eq]
    refine ⟨c1, c2, c3, c4, c5, c6, by simp; omega, c8, ?_⟩
    rw [allM_snoc, c9, g1, g2]
    rfl
  split at h
  · rename_i e0 e1 e2 e3 e4 e
    rw [if_neg e0, if_neg e1, if_neg e2, if_neg e3, if_neg e4]
    unfold rulE at h
    split at h; · cases h
    rename_i h0
    split at h; · cases h
    rename_i h1
    split at h; · cases h
    rename_i h2
    have hne : c.ss ≠ [] := fun e => h0 (.inr e)
    have hs := last_split hne
    simp only [formC, Bool.and_eq_true, decide_eq_true_eq]
    refine ⟨c1, c2, c3, c4, c5, c6, ?_, c8, ?_⟩
    · rw [hs] at c7
      simp only [addR, List.length_append, List.length_cons, List.length_nil] at c7 ⊢
      exact c7
    · rw [hs, allM_snoc] at c9
      simp only [Bool.and_eq_true] at c9
      obtain ⟨k1, k2, k3⟩ := c9
      rw [addR, allM_snoc, k1]
      simp only [Bool.true_and, Bool.and_eq_true]
      refine ⟨?_, k3⟩
      simp only [Bool.not_eq_false, lisB, Bool.and_eq_true] at h1
      obtain ⟨l1, l2, l3, l4, l5⟩ := h1
      have hr : rlOK (rlOf w) = true := by simp [rlOK, rlOf, (list_good l1).1, (list_good l2).1, (list_good l3).1, (list_good l4).1, (list_good l5).1]
      unfold lastR at h2
      simp only [smOK, Bool.and_eq_true, decide_eq_true_eq] at k2 ⊢
      obtain ⟨m1, m2, m3, m4, m5, m6⟩ := k2
      refine ⟨m1, m2, m3, m4, ?_, ?_⟩
      · simp only [List.length_append, List.length_cons, List.length_nil]; omega
      · rw [List.all_append, m6]; simp [hr]
  · cases h
end Go.Proofs.YtljidkmppeaecaaDoor

/- A formed configuration is told in lines, and read as it was told: plain laws. -/
namespace Go.Proofs.YtljidkmppeaecaaDoor
open Go Go.Proofs Go.Ua Go.Extern
set_option linter.unusedVariables false
set_option linter.unusedSimpArgs false

theorem zero_formed : formC zeroC = true := by decide

end Go.Proofs.YtljidkmppeaecaaDoor

/- The end of a function that was handed blocks and leaves others: rows renamed by appends. A library of this claim's own: no statement stands in it. -/
namespace Go.Ua
open Go Go.Proofs Go.RowKit
set_option linter.unusedVariables false
set_option linter.unusedSimpArgs false
set_option linter.unusedSectionVars false

def outI (ns : List Nat) (h : List (Nat × Blk)) : List Nat → Nat → Option (List (Nat × Blk))
  | [], _ => some []
  | n :: r, i => (match look n h with
    | some B => (match B.inN ns, outI ns h r (i + 1) with
      | true, some l => some ((i, B.ren (fun n => posN n ns)) :: l)
      | _, _ => none)
    | none => outI ns h r (i + 1))
theorem outI_ok {ns : List Nat} {h : List (Nat × Blk)} : ∀ {l : List Nat} {i : Nat} {hh : List (Nat × Blk)}, outI ns h l i = some hh →
    ∀ n B, look n hh = some B → i ≤ n ∧ n < i + l.length ∧ ∃ B0, look (nthN l (n - i)) h = some B0 ∧ B0.inN ns = true ∧ B = B0.ren (fun n => posN n ns)
  | [], i, hh, e => by
    obtain rfl := Option.some.inj e
    intro n B h
    simp [look] at h
  | m :: r, i, hh, e => by
    unfold outI at e
    have rest : ∀ {l}, outI ns h r (i + 1) = some l → ∀ n B, look n l = some B → i ≤ n ∧ n < i + (m :: r).length ∧ ∃ B0, look (nthN (m :: r) (n - i)) h = some B0 ∧ B0.inN ns = true ∧ B = B0.ren (fun n => posN n ns) := by
      intro l hl n B hB
      obtain ⟨g1, g2, B0, g3, g4, g5⟩ := outI_ok hl n B hB
      have hn : n - i = (n - (i + 1)) + 1 := by omega
      refine ⟨by omega, by simp only [List.length_cons]; omega, B0, ?_, g4, g5⟩
      rw [hn]
      exact g3
    split at e
    · rename_i B0 hB0
      split at e
      · rename_i l hin hl
        obtain rfl := Option.some.inj e
        intro n B hB
        rw [look_cons] at hB
        split at hB
        · rename_i e2
          obtain rfl := Option.some.inj hB
          simp only at e2
          subst e2
          exact ⟨Nat.le_refl _, by simp, B0, by rw [Nat.sub_self]; exact hB0, hin, rfl⟩
        · exact rest hl n B hB
      · cases e
    · exact rest e
def hold0 : List Nat → Nat → Nat → Bool
  | _, 0, _ => true
  | m :: r, k + 1, i => (match Nat.beq m i with
    | true => hold0 r k (i + 1)
    | false => false)
  | [], _ + 1, _ => false
theorem hold0_ok : ∀ {ns : List Nat} {k i : Nat}, hold0 ns k i = true → ∀ n, n < k → n < ns.length ∧ nthN ns n = n + i
  | _, 0, _, _, n, hn => by omega
  | [], k + 1, i, h, _, _ => by simp [hold0] at h
  | m :: r, k + 1, i, h, n, hn => by
    unfold hold0 at h
    split at h
    · rename_i e
      cases n with
      | zero => exact ⟨by simp, by simp [nthN, Nat.eq_of_beq_eq_true e]⟩
      | succ n =>
        obtain ⟨g1, g2⟩ := hold0_ok h n (by omega)
        exact ⟨by simp only [List.length_cons]; omega, by simp only [nthN, g2]; omega⟩
    · cases h

section
variable {P : Program} [Globs P] {τ : Tab} {cx : Cx P} {Q : Exit → Act → World → Prop}
theorem finI_of {fn : Func} (hτ : TabOK P τ) {S : St} (ns : List Nat) {l : List AV} {X : AV} {h' H : List (Nat × Blk)} {fr0 m : Nat} (h0 : cx.w0.fr = fr0) (hres : resAV τ S fn.results.toList = some l)
    (hin : (tupAV l).inN ns = true) (ho : outI ns S.h ns 0 = some h') (hd : nodupB ns = true) (hold : hold0 ns fr0 0 = true) (hm : ns.length = m) (hx : (tupAV l).ren (fun n => posN n ns) = X) (hH : h' = H) :
    ∀ ι a w, Rel cx.X cx.L cx.w0 cx.nt ι S a w → fin P fn cx (fun y h1 fr1 => y = X ∧ h1 = H ∧ fr1 = m) .ret a w ∧ fin P fn cx (fun y h1 fr1 => y = X ∧ h1 = H ∧ fr1 = m) .normal a w := by
  subst hx hH hm h0
  obtain ⟨b1, b2⟩ := ren_back ns (tupAV l) hin
  have hk : keeps (nthN ns) ns.length S.h h' := by
    intro n B hB
    obtain ⟨g1, g2, B0, g3, g4, rfl⟩ := outI_ok ho n B hB
    obtain ⟨c1, c2⟩ := bren_back g4
    exact ⟨by simpa using g2, c2, by rw [c1]; simpa using g3⟩
  refine fin_of (cx := cx) hτ hres (nthN ns) (x := (tupAV l).ren (fun n => posN n ns)) (h' := h') (fr' := ns.length) b1.symm b2 (fun n hn => ?_) hk (fun n m h1 h2 e => ?_) ⟨rfl, rfl, rfl⟩
  · have := hold0_ok hold n hn
    exact ⟨this.1, by simpa using this.2⟩
  · obtain ⟨B, hB⟩ := Option.isSome_iff_exists.1 h1
    obtain ⟨C, hC⟩ := Option.isSome_iff_exists.1 h2
    exact nthN_inj hd n m (hk n B hB).1 (hk m C hC).1 e
theorem AKp.doneI {fn : Func} (hτ : TabOK P τ) {S : St} (ns : List Nat) {l : List AV} {X : AV} {h' H : List (Nat × Blk)} {fr0 m : Nat} (h0 : cx.w0.fr = fr0) (hres : resAV τ S fn.results.toList = some l)
    (hin : (tupAV l).inN ns = true) (ho : outI ns S.h ns 0 = some h') (hd : nodupB ns = true) (hold : hold0 ns fr0 0 = true) (hm : ns.length = m) (hx : (tupAV l).ren (fun n => posN n ns) = X) (hH : h' = H) {k : List KI} :
    AKp P cx (fin P fn cx (fun y h1 fr1 => y = X ∧ h1 = H ∧ fr1 = m)) (.code .ret :: k, S) :=
  AK.ret fun ι a w r => (finI_of hτ ns h0 hres hin ho hd hold hm hx hH ι a w r).1
theorem AKp.endI {fn : Func} (hτ : TabOK P τ) {S : St} (ns : List Nat) {l : List AV} {X : AV} {h' H : List (Nat × Blk)} {fr0 m : Nat} (h0 : cx.w0.fr = fr0) (hres : resAV τ S fn.results.toList = some l)
    (hin : (tupAV l).inN ns = true) (ho : outI ns S.h ns 0 = some h') (hd : nodupB ns = true) (hold : hold0 ns fr0 0 = true) (hm : ns.length = m) (hx : (tupAV l).ren (fun n => posN n ns) = X) (hH : h' = H) :
    AKp P cx (fin P fn cx (fun y h1 fr1 => y = X ∧ h1 = H ∧ fr1 = m)) ([], S) :=
  AK.end fun ι a w r => (finI_of hτ ns h0 hres hin ho hd hold hm hx hH ι a w r).2
end
end Go.Ua

