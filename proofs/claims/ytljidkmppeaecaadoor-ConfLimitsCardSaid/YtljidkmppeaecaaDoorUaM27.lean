/- The library of this claim and its walks, part 27, joined out of smaller texts. No statement stands in it. -/
import Derived.Test.YtljidkmppeaecaaDoorUaM19
import Derived.Test.YtljidkmppeaecaaDoorUaM26
import Derived.Laws.Cover3
/- A slice held against nil. A library of this claim's own: no statement stands in it. -/
namespace Go.Ua
open Go Go.Proofs
set_option linter.unusedVariables false
set_option linter.unusedSectionVars false
section
variable {P : Program} [Globs P] {τ : Tab} {cx : Cx P} {Q : Exit → Act → World → Prop}

/-- Whether a slice is nil, that is told as a list: what is nil is empty. -/
theorem AKp.isNil (hτ : TabOK P τ) {n : Nat} (hn : cx.nt = n) {all r : List Oper} {k : List KI} {S : St} {o : Oper} {t e : TypeId} {xo yo : Operand} {u : TypeId} {kk : Nat} {es : List Dat}
    (ho : o.op = .binOp .eql t xo yo u) (hx : evl S xo = .d (.view kk es)) (hy : evl S yo = .d (.s .sl0)) (hk : kindOf τ t = .slice e) (hg : guardB all S o = some true) (hd : dstB n o = true)
    (h : ∀ b : Bool, (b = true → es = []) → AKp P cx Q (.ops all r :: k, S.put o.dst (.d (.s (.bool b))))) : AKp P cx Q (.ops all (o :: r) :: k, S) := by
  intro ι a w H
  show wpList P all.toArray (den P cx Q k) (o :: r) a w
  unfold wpList
  rw [guardB_spec H hg, if_pos rfl]
  refine .inl ?_
  have hvx := H.evl xo
  have hvy := H.evl yo
  rw [hx] at hvx
  rw [hy] at hvy
  have ey := rep_s hvy
  obtain ⟨d, i, y, _, _, hu, _, _, hk'⟩ := kindOf_run hτ hk (fun _ _ => trivial) (by simp)
  simp only [TK.ok] at hk'
  subst hk'
  have hd' := dstB_lt (by rw [← hn] at hd; exact hd)
  obtain ⟨ad, l, c, hv, he⟩ : ∃ (ad : Option Addr) (l c : Nat), a.eval xo = .slice ad l c ∧ (ad.isNone = true → es = []) := by
    generalize a.eval xo = v at hvx
    cases rep_d hvx with
    | nil k => exact ⟨none, 0, 0, rfl, fun _ => rfl⟩
    | view k es ad cap f => exact ⟨some ad, _, cap, rfl, fun h => by cases h⟩
  have hrun : (execOp a.eval o).run P w = .ok (.value (.bool ad.isNone)) w := by
    have heq := run_equal_slice_nil (P := P) w t e ad l c hu
    simp only [execOp, ho, hv, ey, Sc.val]
    simp only [Sem.run_bind]
    rw [eqGuard_plain (P := P) (w := w) (op := .eql) (t := t) (xo := xo) (yo := yo) (v := .slice ad l c) (u := .slice none 0 0) (.inl ⟨by simp, by simp⟩)]
    simp [Go.binOp, heq]
  unfold Oper.wp
  rw [hrun]
  have := h ad.isNone he ι (a.put o.dst (.bool ad.isNone)) w (H.put hd' (.d _ _ (.s (.bool _) trivial)))
  exact this
/-- One operation, by what it comes to. -/
theorem AKp.stepR {F : Fam} (hF : F = Fam.real) (hτ : TabOK P τ) {n : Nat} (hn : cx.nt = n) {all r : List Oper} {k : List KI} {S S' : St} {o : Oper} (hg : guardB all S o = some true)
    (hs : stepOp (Ar.of F) τ n S o = some S') (next : AKp P cx Q (.ops all r :: k, S')) : AKp P cx Q (.ops all (o :: r) :: k, S) := by
  subst hF
  subst hn
  intro ι a w H
  show wpList P all.toArray (den P cx Q k) (o :: r) a w
  unfold wpList
  rw [guardB_spec H hg, if_pos rfl]
  exact .inl (stepOp_wp hτ H hs fun ι' a' w' H' => next ι' a' w' H')
inductive AKo (P : Program) [Globs P] (cx : Cx P) (Q : Exit → Act → World → Prop) (p : List Oper × List Oper × List KI) : Option St → Prop where
  | some {S' : St} (h : AKp P cx Q (.ops p.1 p.2.1 :: p.2.2, S')) : AKo P cx Q p (some S')
theorem AKp.stepO {F : Fam} (hF : F = Fam.real) (hτ : TabOK P τ) {n : Nat} (hn : cx.nt = n) {all r : List Oper} {k : List KI} {S : St} {o : Oper} (hg : guardB all S o = some true)
    (hs : AKo P cx Q (all, r, k) (stepOp (Ar.of F) τ n S o)) : AKp P cx Q (.ops all (o :: r) :: k, S) := by
  cases ho : stepOp (Ar.of F) τ n S o with
  | none => rw [ho] at hs; cases hs
  | some S' =>
    rw [ho] at hs
    cases hs with
    | some h => exact AKp.stepR hF hτ hn hg ho h
/-- A loop whose round is a tree that stops ahead of some regions. -/
theorem AKl.invTs {F : Fam} (hF : F = Fam.real) (hτ : TabOK P τ) (hm : P.follows .mixedOrders = true) {nn : Nat} (hn : cx.nt = nn) {c : Code} {k : List KI} {S : St} {K : List (Nat × AV)} (h0 : cx.w0.fr ≤ S.fr) (sp : List Nat) (fz : Bool) (G : Tbl) (hG : TblOK P G)
    (I : Nat → List (Nat × AV) → List (Nat × Blk) → Prop) (n : Nat) {vs : List (Nat × AV)} {hs : List (Nat × Blk)}
    (hI : I n vs hs) (h1 : leT0 S.fr S.t (appT vs K)) (h2 : leH0 S.fr S.h hs)
    (round : ∀ (J : St → Prop) n vs hs, (∀ m vs hs, m < n → I m vs hs → J ⟨appT vs K, hs, S.fr⟩) → I n vs hs → AKt P cx Q (Ua.runT F τ nn fz G sp 100000 [] (.code c :: .back J :: k) ⟨appT vs K, hs, S.fr⟩)) : AKl P cx Q c k S K := by
  intro hK
  refine AK.keepL ⟨appT vs K, hs, S.fr⟩ h0 h1 h2 (AK.loop (fun n S' => ∃ vs hs, I n vs hs ∧ S' = ⟨appT vs K, hs, S.fr⟩) n ⟨vs, hs, hI, rfl⟩ ?_)
  rintro n S' ⟨vs, hs, hI, rfl⟩
  refine AK.runTn hF hτ hm hn sp fz G hG h0 (round _ n vs hs ?_ hI)
  intro m vs hs hm hI
  exact ⟨m, hm, vs, hs, hI, rfl⟩
/-! ### Loops of a known number of rounds -/
end
end Go.Ua

/- Configurations as data: levels, rules, schemas. -/
namespace Go.Proofs.YtljidkmppeaecaaDoor
open Go Go.Proofs Go.Ua Go.Extern
set_option linter.unusedVariables false
set_option linter.unusedSimpArgs false

abbrev Wd := List UInt8
structure Lv where
  nm : Wd
  kd : Int
  sh : Int
  ld : Int
  bo : Int
  qu : Int
  ha : Int
  le : Int
  wa : Int
  gu : Int
structure Rl where
  us : List Wd
  gs : List Wd
  vs : List Wd
  rs : List Wd
  ps : List Wd
structure Sm where
  nm : Wd
  lv : Wd
  rk : Int
  bb : Int
  rl : List Rl
structure Cf where
  tt : Int
  pe : Int
  pr : Int
  mo : Int
  ls : List Lv
  ss : List Sm
def Lv.dat (l : Lv) : Dat := .agg [.s (.str l.nm), .s (.int .i64 l.kd), .s (.int .i64 l.sh), .s (.int .i64 l.ld), .s (.int .i64 l.bo), .s (.int .i64 l.qu), .s (.int .i64 l.ha), .s (.int .i64 l.le), .s (.int .i64 l.wa), .s (.int .i64 l.gu)]
def Rl.dat (r : Rl) : Dat := .agg [.view 1 (strDs r.us), .view 1 (strDs r.gs), .view 1 (strDs r.vs), .view 1 (strDs r.rs), .view 1 (strDs r.ps)]
def lvDs (l : List Lv) : List Dat := l.map Lv.dat
def rlDs (l : List Rl) : List Dat := l.map Rl.dat
def Sm.dat (s : Sm) : Dat := .agg [.s (.str s.nm), .s (.str s.lv), .s (.int .i64 s.rk), .s (.int .i64 s.bb), .view 5 (rlDs s.rl)]
def smDs (l : List Sm) : List Dat := l.map Sm.dat
def Cf.cells (c : Cf) : List Dat := [.s (.int .i64 c.tt), .s (.int .i64 c.pe), .s (.int .i64 c.pr), .s (.int .i64 c.mo), .view 10 (lvDs c.ls), .view 5 (smDs c.ss)]
def Cf.dat (c : Cf) : Dat := .agg c.cells
def zeroL : Lv := ⟨[], 0, 0, 0, 0, 0, 0, 0, 0, 0⟩
def zeroR : Rl := ⟨[], [], [], [], []⟩
def zeroS : Sm := ⟨[], [], 0, 0, []⟩
def zeroC : Cf := ⟨0, 0, 0, 0, [], []⟩

def unL : Dat → Lv
  | .agg [.s (.str a), .s (.int .i64 b), .s (.int .i64 c), .s (.int .i64 d), .s (.int .i64 e), .s (.int .i64 f), .s (.int .i64 g), .s (.int .i64 h), .s (.int .i64 i), .s (.int .i64 j)] => ⟨a, b, c, d, e, f, g, h, i, j⟩
  | _ => zeroL
def isL : Dat → Bool
  | .agg [.s (.str a), .s (.int .i64 b), .s (.int .i64 c), .s (.int .i64 d), .s (.int .i64 e), .s (.int .i64 f), .s (.int .i64 g), .s (.int .i64 h), .s (.int .i64 i), .s (.int .i64 j)] => true
  | _ => false
def unR : Dat → Rl
  | .agg [.view 1 a, .view 1 b, .view 1 c, .view 1 d, .view 1 e] => ⟨unStr a, unStr b, unStr c, unStr d, unStr e⟩
  | _ => zeroR
def isR : Dat → Bool
  | .agg [.view 1 a, .view 1 b, .view 1 c, .view 1 d, .view 1 e] => isStrs a && (isStrs b && (isStrs c && (isStrs d && isStrs e)))
  | _ => false
def unLv (es : List Dat) : List Lv := es.map unL
def isLv (es : List Dat) : Bool := es.all isL
def unRl (es : List Dat) : List Rl := es.map unR
def isRl (es : List Dat) : Bool := es.all isR
def unS : Dat → Sm
  | .agg [.s (.str a), .s (.str b), .s (.int .i64 c), .s (.int .i64 d), .view 5 e] => ⟨a, b, c, d, unRl e⟩
  | _ => zeroS
def isS : Dat → Bool
  | .agg [.s (.str a), .s (.str b), .s (.int .i64 c), .s (.int .i64 d), .view 5 e] => isRl e
  | _ => false
def unSm (es : List Dat) : List Sm := es.map unS
def isSm (es : List Dat) : Bool := es.all isS

theorem map_un {α : Type} {f : α → Dat} {g : Dat → α} {p : Dat → Bool} (h : ∀ d, p d = true → f (g d) = d) {es : List Dat} (he : es.all p = true) : (es.map g).map f = es := by
  rw [List.map_map]
  conv => rhs; rw [← List.map_id es]
  exact List.map_congr_left fun d hd => h d (List.all_eq_true.1 he d hd)
theorem un_map {α : Type} {f : α → Dat} {g : Dat → α} (h : ∀ x, g (f x) = x) (l : List α) : (l.map f).map g = l := by
  rw [List.map_map]
  conv => rhs; rw [← List.map_id l]
  exact List.map_congr_left fun e _ => h e
theorem all_map {α : Type} {f : α → Dat} {p : Dat → Bool} (h : ∀ x, p (f x) = true) (l : List α) : (l.map f).all p = true := by
  rw [List.all_map, List.all_eq_true]
  exact fun e _ => h e

theorem l_un {d : Dat} (h : isL d = true) : (unL d).dat = d := by
  unfold isL at h
  split at h
  · rfl
  · cases h
theorem lv_un {es : List Dat} (h : isLv es = true) : lvDs (unLv es) = es := map_un (fun _ => l_un) h
theorem un_lv (l : List Lv) : unLv (lvDs l) = l := un_map (fun _ => rfl) l
theorem is_lv (l : List Lv) : isLv (lvDs l) = true := all_map (fun _ => rfl) l
theorem r_un {d : Dat} (h : isR d = true) : (unR d).dat = d := by
  unfold isR at h
  split at h
  · simp only [Bool.and_eq_true] at h
    obtain ⟨h1, h2, h3, h4, h5⟩ := h
    simp only [unR, Rl.dat, strDs_unStr h1, strDs_unStr h2, strDs_unStr h3, strDs_unStr h4, strDs_unStr h5]
  · cases h
theorem rl_un {es : List Dat} (h : isRl es = true) : rlDs (unRl es) = es := map_un (fun _ => r_un) h
theorem un_r (r : Rl) : unR r.dat = r := by
  unfold Rl.dat
  simp only [unR, unStr_strDs]
theorem is_r (r : Rl) : isR r.dat = true := by
  unfold Rl.dat
  simp only [isR, isStrs_strDs, Bool.and_true]
theorem un_rl (l : List Rl) : unRl (rlDs l) = l := un_map un_r l
theorem is_rl (l : List Rl) : isRl (rlDs l) = true := all_map is_r l
theorem s_un {d : Dat} (h : isS d = true) : (unS d).dat = d := by
  unfold isS at h
  split at h
  · simp only [unS, Sm.dat, rl_un h]
  · cases h
theorem sm_un {es : List Dat} (h : isSm es = true) : smDs (unSm es) = es := map_un (fun _ => s_un) h
theorem un_s (s : Sm) : unS s.dat = s := by
  unfold Sm.dat
  simp only [unS, un_rl]
theorem is_s (s : Sm) : isS s.dat = true := by
  unfold Sm.dat
  simp only [isS, is_rl]
theorem un_sm (l : List Sm) : unSm (smDs l) = l := un_map un_s l
theorem is_sm (l : List Sm) : isSm (smDs l) = true := all_map is_s l
theorem lvDs_len (l : List Lv) : (lvDs l).length = l.length := by simp [lvDs]
theorem smDs_len (l : List Sm) : (smDs l).length = l.length := by simp [smDs]
theorem smDs_get {l : List Sm} {i : Nat} {x : Sm} (h : l[i]? = some x) : (smDs l)[i]? = some x.dat := by rw [smDs, List.getElem?_map, h]; rfl
end Go.Proofs.YtljidkmppeaecaaDoor

/- What a line says of a configuration; what is formed: plain laws. -/
namespace Go.Proofs.YtljidkmppeaecaaDoor
open Go Go.Proofs Go.Ua Go.Extern
set_option linter.unusedVariables false
set_option linter.unusedSimpArgs false

def TOTAL : Wd := [116, 111, 116, 97, 108]
def PERIOD : Wd := [112, 101, 114, 105, 111, 100]
def SEATS : Wd := [115, 101, 97, 116, 115]
def LEVEL : Wd := [108, 101, 118, 101, 108]
def SCHEMA : Wd := [115, 99, 104, 101, 109, 97]
def RULE : Wd := [114, 117, 108, 101]
def EXEMPT : Wd := [101, 120, 101, 109, 112, 116]
def REJECT : Wd := [114, 101, 106, 101, 99, 116]
def QUEUE : Wd := [113, 117, 101, 117, 101]
def ALLW : Wd := [97, 108, 108]
def NONE : Wd := [110, 111, 110, 101]
def USER : Wd := [117, 115, 101, 114]
def SPACE : Wd := [115, 112, 97, 99, 101]

/-- The word at a place. -/
def wAt (w : List Wd) (i : Nat) : Wd := w.getD i []

def totE (c : Cf) (w : List Wd) : Int := if w.length ≠ 2 then 2 else if numB (wAt w 1) 1 4096 = false then 8 else if c.tt ≠ 0 then 5 else 0
def perE (c : Cf) (w : List Wd) : Int := if w.length ≠ 2 then 2 else if numB (wAt w 1) 1 1000 = false then 8 else if c.pe ≠ 0 then 5 else 0
def seaE (c : Cf) (w : List Wd) : Int := if w.length ≠ 3 then 2 else if (numB (wAt w 1) 1 1048576 && numB (wAt w 2) 1 16) = false then 8 else if c.pr ≠ 0 then 5 else 0

def kindL (w : List Wd) : Int := if w.length = 3 ∧ wAt w 2 = EXEMPT then 1 else if w.length = 6 ∧ wAt w 5 = REJECT then 2 else if w.length = 11 ∧ wAt w 5 = QUEUE then 3 else 0
def borB (x : Wd) : Bool := decide (x = ALLW) || numB x 0 1000
def borV (x : Wd) : Int := if x = ALLW then -1 else numV x 0 1000
def limB (w : List Wd) : Bool := numB (wAt w 2) 0 10000 && (numB (wAt w 3) 0 100 && borB (wAt w 4))
def queB (w : List Wd) : Bool := numB (wAt w 6) 1 64 && (numB (wAt w 7) 1 8 && (numB (wAt w 8) 1 64 && (numB (wAt w 9) 1 1000 && numB (wAt w 10) 1 1000)))
def lvOf (w : List Wd) : Lv :=
  if kindL w = 1 then ⟨wAt w 1, 1, 0, 0, 0, 0, 0, 0, 0, 0⟩
  else if kindL w = 2 then ⟨wAt w 1, 2, numV (wAt w 2) 0 10000, numV (wAt w 3) 0 100, borV (wAt w 4), 0, 0, 0, 0, 0⟩
  else ⟨wAt w 1, 3, numV (wAt w 2) 0 10000, numV (wAt w 3) 0 100, borV (wAt w 4), numV (wAt w 6) 1 64, numV (wAt w 7) 1 8, numV (wAt w 8) 1 64, numV (wAt w 9) 1 1000, numV (wAt w 10) 1 1000⟩
def hasL (l : List Lv) (n : Wd) : Bool := l.any fun x => decide (x.nm = n)
def hasM (l : List Sm) (n : Wd) : Bool := l.any fun x => decide (x.nm = n)
def levE (c : Cf) (w : List Wd) : Int :=
  if kindL w = 0 then 2 else if nameF (wAt w 1) = false then 4 else if kindL w ≠ 1 ∧ limB w = false then 8 else if kindL w = 3 ∧ queB w = false then 8
  else if hasL c.ls (wAt w 1) = true then 5 else if 16 ≤ c.ls.length then 3 else 0

def byB (x : Wd) : Bool := decide (x = NONE) || (decide (x = USER) || decide (x = SPACE))
def byV (x : Wd) : Int := if x = USER then 1 else if x = SPACE then 2 else 0
def smOf (w : List Wd) : Sm := ⟨wAt w 1, wAt w 2, numV (wAt w 3) 1 10000, byV (wAt w 4), []⟩
def schE (c : Cf) (w : List Wd) : Int :=
  if w.length ≠ 5 then 2 else if (nameF (wAt w 1) && nameF (wAt w 2)) = false then 4 else if numB (wAt w 3) 1 10000 = false then 8 else if byB (wAt w 4) = false then 2
  else if hasM c.ss (wAt w 1) = true then 5 else if 32 ≤ c.ss.length then 3 else 0

def lisV (x : Wd) : List Wd := (listF x).getD []
def rlOf (w : List Wd) : Rl := ⟨lisV (wAt w 1), lisV (wAt w 2), lisV (wAt w 3), lisV (wAt w 4), lisV (wAt w 5)⟩
def lisB (w : List Wd) : Bool := listB (wAt w 1) && (listB (wAt w 2) && (listB (wAt w 3) && (listB (wAt w 4) && listB (wAt w 5))))
def lastR (c : Cf) : List Rl := (c.ss.getLastD zeroS).rl
def rulE (c : Cf) (w : List Wd) : Int :=
  if w.length ≠ 6 ∨ c.ss = [] then 2 else if lisB w = false then 2 else if 8 ≤ (lastR c).length then 3 else 0
def addR (l : List Sm) (r : Rl) : List Sm := l.dropLast ++ [⟨(l.getLastD zeroS).nm, (l.getLastD zeroS).lv, (l.getLastD zeroS).rk, (l.getLastD zeroS).bb, (l.getLastD zeroS).rl ++ [r]⟩]

def linE (c : Cf) (w : List Wd) : Int :=
  if wAt w 0 = TOTAL then totE c w else if wAt w 0 = PERIOD then perE c w else if wAt w 0 = SEATS then seaE c w
  else if wAt w 0 = LEVEL then levE c w else if wAt w 0 = SCHEMA then schE c w else if wAt w 0 = RULE then rulE c w else 2
/-- What a line adds, where it says anything. -/
def linA (c : Cf) (w : List Wd) : Cf :=
  if wAt w 0 = TOTAL then { c with tt := numV (wAt w 1) 1 4096 } else if wAt w 0 = PERIOD then { c with pe := numV (wAt w 1) 1 1000 }
  else if wAt w 0 = SEATS then { c with pr := numV (wAt w 1) 1 1048576, mo := numV (wAt w 2) 1 16 }
  else if wAt w 0 = LEVEL then { c with ls := c.ls ++ [lvOf w] } else if wAt w 0 = SCHEMA then { c with ss := c.ss ++ [smOf w] } else { c with ss := addR c.ss (rlOf w) }
/-! ### What is formed -/
def inB (n a b : Int) : Bool := decide (a ≤ n) && decide (n ≤ b)
end Go.Proofs.YtljidkmppeaecaaDoor

/- A formed configuration is told in lines, and read as it was told: plain laws. -/
namespace Go.Proofs.YtljidkmppeaecaaDoor
open Go Go.Proofs Go.Ua Go.Extern
set_option linter.unusedVariables false
set_option linter.unusedSimpArgs false

def digI (n : Int) : Wd := Lib.decDigits n.toNat
end Go.Proofs.YtljidkmppeaecaaDoor

/- The end of a function that was handed blocks and leaves others: rows renamed by appends. A library of this claim's own: no statement stands in it. -/
namespace Go.Ua
open Go Go.Proofs Go.RowKit
set_option linter.unusedVariables false
set_option linter.unusedSimpArgs false
set_option linter.unusedSectionVars false

def outI (ns : List Nat) (h : List (Nat × Blk)) : List Nat → Nat → Option (List (Nat × Blk))
  | [], _ => some []
  | n :: r, i => (match look n h with
    | some B => (match B.inN ns, outI ns h r (i + 1) with
      | true, some l => some ((i, B.ren (fun n => posN n ns)) :: l)
      | _, _ => none)
    | none => outI ns h r (i + 1))
theorem outI_ok {ns : List Nat} {h : List (Nat × Blk)} : ∀ {l : List Nat} {i : Nat} {hh : List (Nat × Blk)}, outI ns h l i = some hh →
    ∀ n B, look n hh = some B → i ≤ n ∧ n < i + l.length ∧ ∃ B0, look (nthN l (n - i)) h = some B0 ∧ B0.inN ns = true ∧ B = B0.ren (fun n => posN n ns)
  | [], i, hh, e => by
    obtain rfl := Option.some.inj e
    intro n B h
    simp [look] at h
  | m :: r, i, hh, e => by
    unfold outI at e
    have rest : ∀ {l}, outI ns h r (i + 1) = some l → ∀ n B, look n l = some B → i ≤ n ∧ n < i + (m :: r).length ∧ ∃ B0, look (nthN (m :: r) (n - i)) h = some B0 ∧ B0.inN ns = true ∧ B = B0.ren (fun n => posN n ns) := by
      intro l hl n B hB
      obtain ⟨g1, g2, B0, g3, g4, g5⟩ := outI_ok hl n B hB
      have hn : n - i = (n - (i + 1)) + 1 := by omega
      refine ⟨by omega, by simp only [List.length_cons]; omega, B0, ?_, g4, g5⟩
      rw [hn]
      exact g3
    split at e
    · rename_i B0 hB0
      split at e
      · rename_i l hin hl
        obtain rfl := Option.some.inj e
        intro n B hB
        rw [look_cons] at hB
        split at hB
        · rename_i e2
          obtain rfl := Option.some.inj hB
          simp only at e2
          subst e2
          exact ⟨Nat.le_refl _, by simp, B0, by rw [Nat.sub_self]; exact hB0, hin, rfl⟩
        · exact rest hl n B hB
      · cases e
    · exact rest e
def hold0 : List Nat → Nat → Nat → Bool
  | _, 0, _ => true
  | m :: r, k + 1, i => (match Nat.beq m i with
    | true => hold0 r k (i + 1)
    | false => false)
  | [], _ + 1, _ => false
theorem hold0_ok : ∀ {ns : List Nat} {k i : Nat}, hold0 ns k i = true → ∀ n, n < k → n < ns.length ∧ nthN ns n = n + i
  | _, 0, _, _, n, hn => by omega
  | [], k + 1, i, h, _, _ => by simp [hold0] at h
  | m :: r, k + 1, i, h, n, hn => by
    unfold hold0 at h
    split at h
    · rename_i e
      cases n with
      | zero => exact ⟨by simp, by simp [nthN, Nat.eq_of_beq_eq_true e]⟩
      | succ n =>
        obtain ⟨g1, g2⟩ := hold0_ok h n (by omega)
        exact ⟨by simp only [List.length_cons]; omega, by simp only [nthN, g2]; omega⟩
    · cases h

section
variable {P : Program} [Globs P] {τ : Tab} {cx : Cx P} {Q : Exit → Act → World → Prop}
theorem finI_of {fn : Func} (hτ : TabOK P τ) {S : St} (ns : List Nat) {l : List AV} {X : AV} {h' H : List (Nat × Blk)} {fr0 m : Nat} (h0 : cx.w0.fr = fr0) (hres : resAV τ S fn.results.toList = some l)
    (hin : (tupAV l).inN ns = true) (ho : outI ns S.h ns 0 = some h') (hd : nodupB ns = true) (hold : hold0 ns fr0 0 = true) (hm : ns.length = m) (hx : (tupAV l).ren (fun n => posN n ns) = X) (hH : h' = H) :
    ∀ ι a w, Rel cx.X cx.L cx.w0 cx.nt ι S a w → fin P fn cx (fun y h1 fr1 => y = X ∧ h1 = H ∧ fr1 = m) .ret a w ∧ fin P fn cx (fun y h1 fr1 => y = X ∧ h1 = H ∧ fr1 = m) .normal a w := by
  subst hx hH hm h0
  obtain ⟨b1, b2⟩ := ren_back ns (tupAV l) hin
  have hk : keeps (nthN ns) ns.length S.h h' := by
    intro n B hB
    obtain ⟨g1, g2, B0, g3, g4, rfl⟩ := outI_ok ho n B hB
    obtain ⟨c1, c2⟩ := bren_back g4
    exact ⟨by simpa using g2, c2, by rw [c1]; simpa using g3⟩
  refine fin_of (cx := cx) hτ hres (nthN ns) (x := (tupAV l).ren (fun n => posN n ns)) (h' := h') (fr' := ns.length) b1.symm b2 (fun n hn => ?_) hk (fun n m h1 h2 e => ?_) ⟨rfl, rfl, rfl⟩
  · have := hold0_ok hold n hn
    exact ⟨this.1, by simpa using this.2⟩
  · obtain ⟨B, hB⟩ := Option.isSome_iff_exists.1 h1
    obtain ⟨C, hC⟩ := Option.isSome_iff_exists.1 h2
    exact nthN_inj hd n m (hk n B hB).1 (hk m C hC).1 e
theorem AKp.doneI {fn : Func} (hτ : TabOK P τ) {S : St} (ns : List Nat) {l : List AV} {X : AV} {h' H : List (Nat × Blk)} {fr0 m : Nat} (h0 : cx.w0.fr = fr0) (hres : resAV τ S fn.results.toList = some l)
    (hin : (tupAV l).inN ns = true) (ho : outI ns S.h ns 0 = some h') (hd : nodupB ns = true) (hold : hold0 ns fr0 0 = true) (hm : ns.length = m) (hx : (tupAV l).ren (fun n => posN n ns) = X) (hH : h' = H) {k : List KI} :
    AKp P cx (fin P fn cx (fun y h1 fr1 => y = X ∧ h1 = H ∧ fr1 = m)) (.code .ret :: k, S) :=
  AK.ret fun ι a w r => (finI_of hτ ns h0 hres hin ho hd hold hm hx hH ι a w r).1
theorem AKp.endI {fn : Func} (hτ : TabOK P τ) {S : St} (ns : List Nat) {l : List AV} {X : AV} {h' H : List (Nat × Blk)} {fr0 m : Nat} (h0 : cx.w0.fr = fr0) (hres : resAV τ S fn.results.toList = some l)
    (hin : (tupAV l).inN ns = true) (ho : outI ns S.h ns 0 = some h') (hd : nodupB ns = true) (hold : hold0 ns fr0 0 = true) (hm : ns.length = m) (hx : (tupAV l).ren (fun n => posN n ns) = X) (hH : h' = H) :
    AKp P cx (fin P fn cx (fun y h1 fr1 => y = X ∧ h1 = H ∧ fr1 = m)) ([], S) :=
  AK.end fun ι a w r => (finI_of hτ ns h0 hres hin ho hd hold hm hx hH ι a w r).2
end
end Go.Ua

/- A row whose last element holds a row: shut and opened again. -/
namespace Go.Ua
open Go Go.RowKit
set_option linter.unusedVariables false
set_option linter.unusedSimpArgs false
section
variable {P : Program} [Globs P] {cx : Cx P} {Q : Exit → Act → World → Prop}
/-- Its last element holds data alone: it is a row like others. -/
theorem AKp.shut {kk : List KI} {S : St} (n : Nat) {E : TypeId} {k m : Nat} {es : List Dat} {cells : List AV} {ds : List Dat} (hb : look n S.h = some (.xs E k m es cells)) (hc : unDs cells = some ds) (he : es[m]? = some (.agg ds))
    (h : AKp P cx Q (kk, ⟨S.t, (n, .ds E k es) :: del n S.h, S.fr⟩)) : AKp P cx Q (kk, S) := by
  intro ι a w H
  refine h ι a w (H.redesc hb fun hB => ?_)
  have hcs := unDs_some hc
  cases hB with
  | xs0 => simp at he
  | xs _ _ _ _ _ b cap cur hi hbk hl hcap hm hk0 hlen hkl hk h1 hr hr2 =>
    have hdl : ds.length = k := by rw [← hkl, hcs]; simp
    refine .ds _ _ _ b cap cur hi hbk hl hcap hm hk0 (fun i e hie => ?_) h1 fun i e j c v hie hc' hv => ?_
    · by_cases hlt : i < m
      · exact hk i e hlt hie
      · have := (List.getElem?_eq_some_iff.1 hie).1
        obtain rfl : i = m := by omega
        rw [he] at hie
        obtain rfl := Option.some.inj hie
        exact hdl
    · by_cases hlt : i < m
      · exact hr i e j c v hlt hie hc' hv
      · have := (List.getElem?_eq_some_iff.1 hie).1
        obtain rfl : i = m := by omega
        rw [he] at hie
        obtain rfl := Option.some.inj hie
        have hc2 : ds[j]? = some c := hc'
        exact rep_d (hr2 j (.d c) v (by rw [hcs, List.getElem?_map, hc2]; rfl) hv)
/-- The last element is seen by its cells. -/
theorem AKp.unshut {kk : List KI} {S : St} (n m : Nat) (es' : List Dat) {E : TypeId} {k : Nat} {es ds : List Dat} (hb : look n S.h = some (.ds E k es)) (hm : es.length = m + 1) (he : es[m]? = some (.agg ds)) (hl' : es'.length = es.length)
    (hes : ∀ i, i < m → es'[i]? = es[i]?) (h : AKp P cx Q (kk, ⟨S.t, (n, .xs E k m es' (ds.map .d)) :: del n S.h, S.fr⟩)) : AKp P cx Q (kk, S) := by
  intro ι a w H
  refine h ι a w (H.redesc hb fun hB => ?_)
  cases hB with
  | ds0 => simp at hm
  | ds _ _ _ b cap cur hi hbk hl hcap hmx hk0 hk h1 hr =>
    refine .xs _ _ _ _ _ b cap cur (by rw [hl']; exact hi) hbk hl (by rw [hl']; exact hcap) hmx hk0 (by rw [hl', hm]) ?_ (fun i e hlt hie => hk i e (by rw [← hes i hlt]; exact hie)) (by rw [hl']; exact h1)
      (fun i e j c v hlt hie hc hv => hr i e j c v (by rw [← hes i hlt]; exact hie) hc hv) fun j c v hc hv => ?_
    · have := hk m _ he
      rw [List.length_map]
      exact this
    · rw [List.getElem?_map, Option.map_eq_some_iff] at hc
      obtain ⟨d, hd, rfl⟩ := hc
      exact .d _ _ (hr m _ j d v he hd hv)
/-- A nil slice in it is a row of its own, that is empty. -/
theorem AKp.asRowX {kk : List KI} {S : St} (n j : Nat) (E2 : TypeId) (k2 : Nat) (hk2 : 0 < k2) {E : TypeId} {k m : Nat} {es : List Dat} {cells : List AV} (hb : look n S.h = some (.xs E k m es cells)) (hj : cells[j]? = some (.d (.s .sl0))) (hn : n < S.fr)
    (h : AKp P cx Q (kk, ⟨S.t, (n, .xs E k m es (cells.set j (.row S.fr k2))) :: del n ((S.fr, .ds E2 k2 []) :: S.h), S.fr + 1⟩)) : AKp P cx Q (kk, S) := by
  intro ι a w H
  obtain ⟨ι', H', hz⟩ := H.fresh (w' := w) (n0 := none) (loc := .nil) (B := .ds E2 k2 []) (z := .row S.fr k2) (v := .slice none 0 0) (fun b _ _ => rfl) (fun b c l h => by cases h) rfl rfl rfl (Nat.le_refl _)
    (fun R' ι' hR hι hi => .ds0 _ _ hi hk2) (fun R' ι' hi => .row0 _ _ _ hi)
  have hb' : look n ((S.fr, .ds E2 k2 []) :: S.h) = some (.xs E k m es cells) := by
    rw [look_cons, if_neg (fun e => by simp at e; omega)]
    exact hb
  refine h ι' a w (H'.redesc hb' fun hB => ?_)
  cases hB with
  | xs0 _ _ _ _ hi hk0 hkl h2 =>
    refine .xs0 _ _ _ _ hi hk0 (by rw [List.length_set]; exact hkl) fun i c hc => ?_
    rw [List.getElem?_set] at hc
    by_cases e : j = i
    · subst e
      have hlt : j < cells.length := (List.getElem?_eq_some_iff.1 hj).1
      rw [if_pos rfl, if_pos hlt] at hc
      obtain rfl := Option.some.inj hc
      exact ⟨_, hz⟩
    · rw [if_neg e] at hc
      exact h2 i c hc
  | xs _ _ _ _ _ b cap cur hi hbk hl hcap hmx hk0 hlen hkl hk h1 hr hr2 =>
    refine .xs _ _ _ _ _ b cap cur hi hbk hl hcap hmx hk0 hlen (by rw [List.length_set]; exact hkl) hk h1 hr fun i c v hc hv => ?_
    rw [List.getElem?_set] at hc
    by_cases e : j = i
    · subst e
      have hlt : j < cells.length := (List.getElem?_eq_some_iff.1 hj).1
      rw [if_pos rfl, if_pos hlt] at hc
      obtain rfl := Option.some.inj hc
      have := rep_s (hr2 j _ v hj hv)
      subst this
      exact hz
    · rw [if_neg e] at hc
      exact hr2 i c v hc hv
/-- A row like any other, or an empty one. -/
theorem AKp.shutG {kk : List KI} {S : St} (n : Nat) {E : TypeId} {k m : Nat} {es : List Dat} {cells : List AV} {ds : List Dat} (hb : look n S.h = some (.xs E k m es cells)) (hc : unDs cells = some ds) (he : es = [] ∨ es[m]? = some (.agg ds))
    (h : AKp P cx Q (kk, ⟨S.t, (n, .ds E k es) :: del n S.h, S.fr⟩)) : AKp P cx Q (kk, S) := by
  rcases he with rfl | he
  · intro ι a w H
    refine h ι a w (H.redesc hb fun hB => ?_)
    cases hB with
    | xs0 _ _ _ _ hi hk0 hkl h2 => exact .ds0 _ _ hi hk0
    | xs _ _ _ _ _ b cap cur hi hbk hl hcap hm hk0 hlen => simp at hlen
  · exact AKp.shut n hb hc he h

theorem RepB.move {R R' : Rd} {ι ι' : Io} {w : World} {n n' : Nat} {B : Blk} (hR : ∀ b o v, R b o v → R' b o v) (hι : ∀ n p, ι n = some p → ι' n = some p) (hn : ∀ p, ι n = some p → ι' n' = some p) (h : RepB R ι w n B) : RepB R' ι' w n' B := by
  cases h with
  | cs T cells b cap l cur hi hb hl h1 h => exact .cs T cells b cap l cur (hn _ hi) hb hl h1 fun j c v h2 h3 => (h j c v h2 h3).mono hR hι
  | ds0 E k hi hk0 => exact .ds0 E k (hn _ hi) hk0
  | ds E k es b cap cur hi hb hl hc hm hk0 hk h1 h => exact .ds E k es b cap cur (hn _ hi) hb hl hc hm hk0 hk h1 fun i e j c v h2 h3 h4 => (h i e j c v h2 h3 h4).mono hR
  | xs E k m es cells b cap cur hi hb hl hc hm hk0 hlen hkl hk h1 h h2 => exact .xs E k m es cells b cap cur (hn _ hi) hb hl hc hm hk0 hlen hkl hk h1 (fun i e j c v h0 h2 h3 h4 => (h i e j c v h0 h2 h3 h4).mono hR) fun j c v h3 h4 => (h2 j c v h3 h4).mono hR hι
  | xs0 E k m cells hi hk0 hkl h2 => exact .xs0 E k m cells (hn _ hi) hk0 hkl fun j c h => (h2 j c h).imp fun v hv => hv.mono hR hι
  | mp f b c l es clock hi hb hf hk => exact .mp f b c l es clock (hn _ hi) hb hf hk
theorem RepB.loc {R : Rd} {ι : Io} {w : World} {n : Nat} {B : Blk} (h : RepB R ι w n B) : ∃ p, ι n = some p := by
  cases h with
  | cs T cells b cap l cur hi => exact ⟨_, hi⟩
  | ds0 E k hi => exact ⟨_, hi⟩
  | ds E k es b cap cur hi => exact ⟨_, hi⟩
  | xs E k m es cells b cap cur hi => exact ⟨_, hi⟩
  | xs0 E k m cells hi => exact ⟨_, hi⟩
  | mp f b c l es clock hi => exact ⟨_, hi⟩
theorem rep_move {R : Rd} {ι : Io} {n n' k : Nat} {v : Value} (hn : ∀ p, ι n = some p → ι n' = some p) (h : RepV R ι (.row n k) v) : RepV R ι (.row n' k) v := by
  cases h with
  | row _ _ b cap len hi => exact .row _ _ _ _ _ (hn _ hi)
  | row0 _ _ a hi => exact .row0 _ _ _ (hn _ hi)
/-- A block under a new name. -/
theorem Rel.anew {X L : Nat → Prop} {w0 : W0} {nt : Nat} {ι : Io} {S : St} {a : Act} {w : World} (H : Rel X L w0 nt ι S a w) {n : Nat} {B : Blk} (hb : look n S.h = some B) :
    ∃ ι', Rel X L w0 nt ι' ⟨S.t, (S.fr, B) :: del n S.h, S.fr + 1⟩ a w ∧ (∀ p, ι' n = some p → ι' S.fr = some p) ∧ n < S.fr := by
  have hB := H.hr.hp n B hb
  obtain ⟨loc, hloc⟩ := hB.loc
  have hfr : n < S.fr := by
    rcases Nat.lt_or_ge n S.fr with h | h
    · exact h
    · rw [H.hr.fresh n h] at hloc; cases hloc
  have := H.change (w' := w) (n0 := some n) (m := S.fr) (fr' := S.fr + 1) (loc := loc) (B := B) ⟨by omega, by omega⟩ (.inl (H.hr.fresh _ (Nat.le_refl _))) (fun b _ _ => rfl)
    (fun b c l h => .inr ⟨n, c, l, rfl, by rw [hb]; rfl, by rw [hloc, h]⟩) rfl rfl rfl (Nat.le_refl _)
    (fun hR hι => hB.move hR hι fun p hp => by rw [hloc] at hp; cases hp; simp [upd])
  refine ⟨_, this.1, fun p hp => ?_, hfr⟩
  have e : upd ι S.fr loc n = ι n := by simp only [upd]; rw [if_neg (by omega)]
  rw [e, hloc] at hp
  cases hp
  simp [upd]
/-- The row in a cell of a block under a new name. -/
theorem AKp.anew {kk : List KI} {S : St} (n p j : Nat) {B : Blk} {T : TypeId} {cells : List AV} {k : Nat} (hb : look n S.h = some B) (hp : look p S.h = some (.cs T cells)) (hj : cells[j]? = some (.row n k)) (hpn : p ≠ n) (hlt : p < S.fr)
    (h : AKp P cx Q (kk, ⟨S.t, (p, .cs T (cells.set j (.row S.fr k))) :: del p ((S.fr, B) :: del n S.h), S.fr + 1⟩)) : AKp P cx Q (kk, S) := by
  intro ι a w H
  obtain ⟨ι', H', hn, _⟩ := H.anew hb
  have hp' : look p ((S.fr, B) :: del n S.h) = some (.cs T cells) := by
    rw [look_cons, if_neg (fun e => by simp at e; omega), look_del, if_neg hpn]
    exact hp
  refine h ι' a w (H'.redesc hp' fun hB => ?_)
  cases hB with
  | cs _ _ b cap l cur hi hbk hl h1 hr =>
    refine .cs _ _ b cap l cur hi hbk (by rw [List.length_set]; exact hl) h1 fun i c v hc hv => ?_
    rw [List.getElem?_set] at hc
    by_cases e : j = i
    · subst e
      have hlt : j < cells.length := (List.getElem?_eq_some_iff.1 hj).1
      rw [if_pos rfl, if_pos hlt] at hc
      obtain rfl := Option.some.inj hc
      exact rep_move hn (hr j _ v hj hv)
    · rw [if_neg e] at hc
      exact hr i c v hc hv
/-- The row in the last element of a row under a new name. -/
theorem AKp.anewX {kk : List KI} {S : St} (n p j : Nat) {B : Blk} {E : TypeId} {k0 m : Nat} {es : List Dat} {cells : List AV} {k : Nat} (hb : look n S.h = some B) (hp : look p S.h = some (.xs E k0 m es cells)) (hj : cells[j]? = some (.row n k)) (hpn : p ≠ n) (hlt : p < S.fr)
    (h : AKp P cx Q (kk, ⟨S.t, (p, .xs E k0 m es (cells.set j (.row S.fr k))) :: del p ((S.fr, B) :: del n S.h), S.fr + 1⟩)) : AKp P cx Q (kk, S) := by
  intro ι a w H
  obtain ⟨ι', H', hn, _⟩ := H.anew hb
  have hp' : look p ((S.fr, B) :: del n S.h) = some (.xs E k0 m es cells) := by
    rw [look_cons, if_neg (fun e => by simp at e; omega), look_del, if_neg hpn]
    exact hp
  refine h ι' a w (H'.redesc hp' fun hB => ?_)
  have hjl : j < cells.length := (List.getElem?_eq_some_iff.1 hj).1
  cases hB with
  | xs0 _ _ _ _ hi hk0 hkl h2 =>
    refine .xs0 _ _ _ _ hi hk0 (by rw [List.length_set]; exact hkl) fun i c hc => ?_
    rw [List.getElem?_set] at hc
    by_cases e : j = i
    · subst e
      rw [if_pos rfl, if_pos hjl] at hc
      obtain rfl := Option.some.inj hc
      exact (h2 j _ hj).imp fun v hv => rep_move hn hv
    · rw [if_neg e] at hc
      exact h2 i c hc
  | xs _ _ _ _ _ b cap cur hi hbk hl hcap hmx hk0 hlen hkl hk h1 hr hr2 =>
    refine .xs _ _ _ _ _ b cap cur hi hbk hl hcap hmx hk0 hlen (by rw [List.length_set]; exact hkl) hk h1 hr fun i c v hc hv => ?_
    rw [List.getElem?_set] at hc
    by_cases e : j = i
    · subst e
      rw [if_pos rfl, if_pos hjl] at hc
      obtain rfl := Option.some.inj hc
      exact rep_move hn (hr2 j _ v hj hv)
    · rw [if_neg e] at hc
      exact hr2 i c v hc hv
/-- A row without elements, out of nothing. -/
theorem AKp.newNil {kk : List KI} {S : St} (E : TypeId) (k : Nat) (hk : 0 < k) (h : AKp P cx Q (kk, ⟨S.t, (S.fr, .ds E k []) :: S.h, S.fr + 1⟩)) : AKp P cx Q (kk, S) := by
  intro ι a w H
  obtain ⟨ι', H', hz⟩ := H.fresh (w' := w) (n0 := none) (loc := .nil) (B := .ds E k []) (z := .row S.fr k) (v := .slice none 0 0) (fun b _ _ => rfl) (fun b c l h => by cases h) rfl rfl rfl (Nat.le_refl _)
    (fun R' ι' hR hι hi => .ds0 _ _ hi hk) (fun R' ι' hi => .row0 _ _ _ hi)
  exact h ι' a w H'
/-- A nil slice in a cell of a block is a row without elements; of the last one it is said what one likes. -/
theorem AKp.asX0 {kk : List KI} {S : St} (p j r : Nat) (E : TypeId) (k m : Nat) (cells : List AV) (hk : 0 < k) {T : TypeId} {cs : List AV} {Br : Blk} (hb : look p S.h = some (.cs T cs)) (hj : cs[j]? = some (.d (.s .sl0))) (hr : look r S.h = some Br)
    (hlen : cells.length = k) (hcs : ∀ (i : Nat) (c : AV), cells[i]? = some c → (∃ x : Sc, c = .d (.s x) ∧ x.ok) ∨ ∃ k2, c = .row r k2) (hn : p < S.fr)
    (h : AKp P cx Q (kk, ⟨S.t, (p, .cs T (cs.set j (.row S.fr k))) :: del p ((S.fr, .xs E k m [] cells) :: S.h), S.fr + 1⟩)) : AKp P cx Q (kk, S) := by
  intro ι a w H
  obtain ⟨lr, hlr⟩ := (H.hr.hp r Br hr).loc
  obtain ⟨ι', H', hz⟩ := H.fresh (w' := w) (n0 := none) (loc := .nil) (B := .xs E k m [] cells) (z := .row S.fr k) (v := .slice none 0 0) (fun b _ _ => rfl) (fun b c l h => by cases h) rfl rfl rfl (Nat.le_refl _)
    (fun R' ι' hR hι hi => .xs0 _ _ _ _ hi hk hlen fun i c hc => by
      rcases hcs i c hc with ⟨x, rfl, hx⟩ | ⟨k2, rfl⟩
      · exact ⟨_, .d _ _ (.s x hx)⟩
      · cases lr with
        | nil => exact ⟨.slice none 0 0, .row0 _ _ _ (hι _ _ hlr)⟩
        | blk b c l => exact ⟨_, .row _ _ _ _ _ (hι _ _ hlr)⟩) (fun R' ι' hi => .row0 _ _ _ hi)
  have hb' : look p ((S.fr, .xs E k m [] cells) :: S.h) = some (.cs T cs) := by
    rw [look_cons, if_neg (fun e => by simp at e; omega)]
    exact hb
  refine h ι' a w (H'.redesc hb' fun hB => ?_)
  cases hB with
  | cs _ _ b cap l cur hi hbk hl h1 hr =>
    refine .cs _ _ b cap l cur hi hbk (by rw [List.length_set]; exact hl) h1 fun i c v hc hv => ?_
    rw [List.getElem?_set] at hc
    by_cases e : j = i
    · subst e
      have hlt : j < cs.length := (List.getElem?_eq_some_iff.1 hj).1
      rw [if_pos rfl, if_pos hlt] at hc
      obtain rfl := Option.some.inj hc
      have := rep_s (hr j _ v hj hv)
      subst this
      exact hz
    · rw [if_neg e] at hc
      exact hr i c v hc hv
/-- Of a cell nothing is told any more. -/
theorem AKp.dim {kk : List KI} {S : St} (n j : Nat) {T : TypeId} {cells : List AV} (hb : look n S.h = some (.cs T cells)) (h : AKp P cx Q (kk, ⟨S.t, (n, .cs T (cells.set j .any)) :: del n S.h, S.fr⟩)) : AKp P cx Q (kk, S) := by
  intro ι a w H
  refine h ι a w (H.redesc hb fun hB => ?_)
  cases hB with
  | cs _ _ b cap l cur hi hbk hl h1 hr =>
    refine .cs _ _ b cap l cur hi hbk (by rw [List.length_set]; exact hl) h1 fun i c v hc hv => ?_
    rw [List.getElem?_set] at hc
    by_cases e : j = i
    · subst e
      have hlt : j < cells.length := by
        rw [← hl]
        exact (List.getElem?_eq_some_iff.1 hv).1
      rw [if_pos rfl, if_pos hlt] at hc
      obtain rfl := Option.some.inj hc
      exact .any v
    · rw [if_neg e] at hc
      exact hr i c v hc hv
theorem AKp.joinN {K k : List KI} (hK : K = k) {S : St} (S' : St) (h0 : cx.w0.fr ≤ S'.fr) (h1 : leT0 S'.fr S.t S'.t) (h2 : leH0 S'.fr S.h S'.h) (h : AK P cx Q K S') : AKp P cx Q (k, S) := by
  subst hK
  exact AK.keepL S' h0 h1 h2 h
/-- What is said of the elements behind the last one's cells does not matter. -/
theorem AKp.reX {kk : List KI} {S : St} (n : Nat) (es' : List Dat) {E : TypeId} {k m : Nat} {es : List Dat} {cells : List AV} (hb : look n S.h = some (.xs E k m es cells)) (hl' : es'.length = es.length) (hes : ∀ i, i < m → es'[i]? = es[i]?)
    (h : AKp P cx Q (kk, ⟨S.t, (n, .xs E k m es' cells) :: del n S.h, S.fr⟩)) : AKp P cx Q (kk, S) := by
  intro ι a w H
  refine h ι a w (H.redesc hb fun hB => ?_)
  cases hB with
  | xs0 _ _ _ _ hi hk0 hkl h2 =>
    obtain rfl : es' = [] := List.length_eq_zero_iff.1 hl'
    exact .xs0 _ _ _ _ hi hk0 hkl h2
  | xs _ _ _ _ _ b cap cur hi hbk hl hcap hmx hk0 hlen hkl hk h1 hr hr2 =>
    exact .xs _ _ _ _ _ b cap cur (by rw [hl']; exact hi) hbk hl (by rw [hl']; exact hcap) hmx hk0 (by rw [hl', hlen]) hkl (fun i e hlt hie => hk i e hlt (by rw [← hes i hlt]; exact hie)) (by rw [hl']; exact h1)
      (fun i e j c v hlt hie hc hv => hr i e j c v hlt (by rw [← hes i hlt]; exact hie) hc hv) hr2
end
end Go.Ua

