/- The library of this claim and its walks, part 27, joined out of smaller texts. No statement stands in it. -/
import Derived.Test.YtpmpajodihpkaaaDoorUaM19
import Derived.Test.YtpmpajodihpkaaaDoorUaM26
import Derived.Laws.Cover3
/- A slice held against nil. A library of this claim's own: no statement stands in it. -/
namespace Go.Ua
open Go Go.Proofs
set_option linter.unusedVariables false
set_option linter.unusedSectionVars false
section
variable {P : Program} [Globs P] {τ : Tab} {cx : Cx P} {Q : Exit → Act → World → Prop}

/-- Whether a slice is nil, that is told as a list: what is nil is empty. -/
theorem AKp.isNil (hτ : TabOK P τ) {n : Nat} (hn : cx.nt = n) {all r : List Oper} {k : List KI} {S : St} {o : Oper} {t e : TypeId} {xo yo : Operand} {u : TypeId} {kk : Nat} {es : List Dat}
    (ho : o.op = .binOp .eql t xo yo u) (hx : evl S xo = .d (.view kk es)) (hy : evl S yo = .d (.s .sl0)) (hk : kindOf τ t = .slice e) (hg : guardB all S o = some true) (hd : dstB n o = true)
    (h : ∀ b : Bool, (b = true → es = []) → AKp P cx Q (.ops all r :: k, S.put o.dst (.d (.s (.bool b))))) : AKp P cx Q (.ops all (o :: r) :: k, S) := by
  intro ι a w H
  show wpList P all.toArray (den P cx Q k) (o :: r) a w
  unfold wpList
  rw [guardB_spec H hg, if_pos rfl]
  refine .inl ?_
  have hvx := H.evl xo
  have hvy := H.evl yo
  rw [hx] at hvx
  rw [hy] at hvy
  have ey := rep_s hvy
  obtain ⟨d, i, y, _, _, hu, _, _, hk'⟩ := kindOf_run hτ hk (fun _ _ => trivial) (by simp)
  simp only [TK.ok] at hk'
  subst hk'
  have hd' := dstB_lt (by rw [← hn] at hd; exact hd)
  obtain ⟨ad, l, c, hv, he⟩ : ∃ (ad : Option Addr) (l c : Nat), a.eval xo = .slice ad l c ∧ (ad.isNone = true → es = []) := by
    generalize a.eval xo = v at hvx
    cases rep_d hvx with
    | nil k => exact ⟨none, 0, 0, rfl, fun _ => rfl⟩
    | view k es ad cap f => exact ⟨some ad, _, cap, rfl, fun h => by cases h⟩
  have hrun : (execOp a.eval o).run P w = .ok (.value (.bool ad.isNone)) w := by
    have heq := run_equal_slice_nil (P := P) w t e ad l c hu
    simp only [execOp, ho, hv, ey, Sc.val]
    simp only [Sem.run_bind]
    rw [eqGuard_plain (P := P) (w := w) (op := .eql) (t := t) (xo := xo) (yo := yo) (v := .slice ad l c) (u := .slice none 0 0) (.inl ⟨by simp, by simp⟩)]
    simp [Go.binOp, heq]
  unfold Oper.wp
  rw [hrun]
  have := h ad.isNone he ι (a.put o.dst (.bool ad.isNone)) w (H.put hd' (.d _ _ (.s (.bool _) trivial)))
  exact this
/-- The end of a function that gives blocks: new name i is the name ns[i] of its own. -/
theorem AKp.doneG {fn : Func} {Qr : AV → List (Nat × Blk) → Nat → Prop} (hτ : TabOK P τ) {S : St} (ns : List Nat) {l : List AV} {x : AV} {h' : List (Nat × Blk)} (h0 : cx.w0.fr = 0) (hres : resAV τ S fn.results.toList = some l)
    (hx : tupAV l = x.ren (nthN ns)) (hlt : x.lt ns.length = true) (hh : leH (nthN ns) ns.length S.h h') (hd : nodupB ns = true) (hQ : Qr x h' ns.length) {k : List KI} : AKp P cx (fin P fn cx Qr) (.code .ret :: k, S) :=
  AK.ret fun ι a w H => (fin_of (cx := cx) hτ hres (nthN ns) hx hlt (fun n hn => by omega) (leH_get (t := S.h) hh)
    (fun n m h1 h2 e => by
      obtain ⟨B, hB⟩ := Option.isSome_iff_exists.1 h1
      obtain ⟨C, hC⟩ := Option.isSome_iff_exists.1 h2
      exact nthN_inj hd n m (leH_get (t := S.h) hh n B hB).1 (leH_get (t := S.h) hh m C hC).1 e) hQ ι a w H).1
inductive AKo (P : Program) [Globs P] (cx : Cx P) (Q : Exit → Act → World → Prop) (p : List Oper × List Oper × List KI) : Option St → Prop where
  | some {S' : St} (h : AKp P cx Q (.ops p.1 p.2.1 :: p.2.2, S')) : AKo P cx Q p (some S')
/-- A loop whose round is a tree that stops ahead of some regions. -/
theorem AKl.invTs {F : Fam} (hF : F = Fam.real) (hτ : TabOK P τ) (hm : P.follows .mixedOrders = true) {nn : Nat} (hn : cx.nt = nn) {c : Code} {k : List KI} {S : St} {K : List (Nat × AV)} (h0 : cx.w0.fr ≤ S.fr) (sp : List Nat) (fz : Bool) (G : Tbl) (hG : TblOK P G)
    (I : Nat → List (Nat × AV) → List (Nat × Blk) → Prop) (n : Nat) {vs : List (Nat × AV)} {hs : List (Nat × Blk)}
    (hI : I n vs hs) (h1 : leT0 S.fr S.t (appT vs K)) (h2 : leH0 S.fr S.h hs)
    (round : ∀ (J : St → Prop) n vs hs, (∀ m vs hs, m < n → I m vs hs → J ⟨appT vs K, hs, S.fr⟩) → I n vs hs → AKt P cx Q (Ua.runT F τ nn fz G sp 100000 [] (.code c :: .back J :: k) ⟨appT vs K, hs, S.fr⟩)) : AKl P cx Q c k S K := by
  intro hK
  refine AK.keepL ⟨appT vs K, hs, S.fr⟩ h0 h1 h2 (AK.loop (fun n S' => ∃ vs hs, I n vs hs ∧ S' = ⟨appT vs K, hs, S.fr⟩) n ⟨vs, hs, hI, rfl⟩ ?_)
  rintro n S' ⟨vs, hs, hI, rfl⟩
  refine AK.runTn hF hτ hm hn sp fz G hG h0 (round _ n vs hs ?_ hI)
  intro m vs hs hm hI
  exact ⟨m, hm, vs, hs, hI, rfl⟩
/-- The same, with rows read and written at places that are not known. -/
theorem AKl.invTsq {F : Fam} (hF : F = Fam.real) (hτ : TabOK P τ) (hm : P.follows .mixedOrders = true) {nn : Nat} (hn : cx.nt = nn) {c : Code} {k : List KI} {S : St} {K : List (Nat × AV)} (h0 : cx.w0.fr ≤ S.fr) (sp : List Nat) (fz : Bool) (G : Tbl) (hG : TblOK P G)
    (I : Nat → List (Nat × AV) → List (Nat × Blk) → Prop) (n : Nat) {vs : List (Nat × AV)} {hs : List (Nat × Blk)}
    (hI : I n vs hs) (h1 : leT0 S.fr S.t (appT vs K)) (h2 : leH0 S.fr S.h hs)
    (round : ∀ (J : St → Prop) n vs hs, (∀ m vs hs, m < n → I m vs hs → J ⟨appT vs K, hs, S.fr⟩) → I n vs hs → AKt P cx Q (Ua.runT F τ nn fz G sp 100000 [0, 0] (.code c :: .back J :: k) ⟨appT vs K, hs, S.fr⟩)) : AKl P cx Q c k S K := by
  intro hK
  refine AK.keepL ⟨appT vs K, hs, S.fr⟩ h0 h1 h2 (AK.loop (fun n S' => ∃ vs hs, I n vs hs ∧ S' = ⟨appT vs K, hs, S.fr⟩) n ⟨vs, hs, hI, rfl⟩ ?_)
  rintro n S' ⟨vs, hs, hI, rfl⟩
  refine AK.runTnq hF hτ hm hn sp fz G hG h0 (round _ n vs hs ?_ hI)
  intro m vs hs hm hI
  exact ⟨m, hm, vs, hs, hI, rfl⟩
/-! ### Loops of a known number of rounds -/
theorem AK.backMono {c : Code} {k : List KI} {S : St} {J J' : St → Prop} (hJ : ∀ S, J S → J' S) (h : AK P cx Q (.code c :: .back J :: k) S) : AK P cx Q (.code c :: .back J' :: k) S := by
  intro ι a w H
  refine Code.wp_mono ?_ (h ι a w H)
  intro e a' w' hq
  cases e with
  | normal => obtain ⟨S', ι', h1, h2⟩ := hq; exact ⟨S', ι', hJ _ h1, h2⟩
  | exit id => exact hq
  | goto l => exact hq
  | ret => exact hq
  | panic ch => exact hq
  | outgrown => exact hq
def AKround (P : Program) [Globs P] (cx : Cx P) (Q : Exit → Act → World → Prop) (c : Code) (k : List KI) : Nat → St → Prop
  | 0, _ => False
  | n + 1, S => AK P cx Q (.code c :: .back (AKround P cx Q c k n) :: k) S
def RND (P : Program) [Globs P] (cx : Cx P) (Q : Exit → Act → World → Prop) (c : Code) (k : List KI) : Nat → (St → Prop) → Prop
  | 0, _ => True
  | n + 1, J => ∃ J', RND P cx Q c k n J' ∧ ∀ S', AK P cx Q (.code c :: .back J' :: k) S' → J S'
theorem RND_of (c : Code) (k : List KI) : ∀ n, RND P cx Q c k n (AKround P cx Q c k n)
  | 0 => trivial
  | n + 1 => ⟨_, RND_of c k n, fun S' h => h⟩
theorem AKp.unroll (n : Nat) {c : Code} {k : List KI} {S : St} (h : ∀ J, RND P cx Q c k n J → AK P cx Q (.code c :: .back J :: k) S) : AKp P cx Q (.code (.loop c) :: k, S) := by
  refine AK.loop (I := fun n S => AKround P cx Q c k n S) (n + 1) (h _ (RND_of c k n)) ?_
  intro n S hn
  cases n with
  | zero => exact hn.elim
  | succ n => exact AK.backMono (fun S' h' => ⟨n, Nat.lt_succ_self n, h'⟩) hn
theorem AKp.backTo {k : List KI} {S : St} {J : St → Prop} (h : J S) : AKp P cx Q (.back J :: k, S) := fun ι a w H => ⟨S, ι, h, H⟩
end
end Go.Ua

/- Configurations as data: levels, rules, schemas. -/
namespace Go.Proofs.YtpmpajodihpkaaaDoor
open Go Go.Proofs Go.Ua Go.Extern
set_option linter.unusedVariables false
set_option linter.unusedSimpArgs false

abbrev Wd := List UInt8
structure Lv where
  nm : Wd
  kd : Int
  sh : Int
  ld : Int
  bo : Int
  qu : Int
  ha : Int
  le : Int
  wa : Int
  gu : Int
structure Rl where
  us : List Wd
  gs : List Wd
  vs : List Wd
  rs : List Wd
  ps : List Wd
structure Sm where
  nm : Wd
  lv : Wd
  rk : Int
  bb : Int
  rl : List Rl
structure Cf where
  tt : Int
  pe : Int
  pr : Int
  mo : Int
  ls : List Lv
  ss : List Sm
def Lv.dat (l : Lv) : Dat := .agg [.s (.str l.nm), .s (.int .i64 l.kd), .s (.int .i64 l.sh), .s (.int .i64 l.ld), .s (.int .i64 l.bo), .s (.int .i64 l.qu), .s (.int .i64 l.ha), .s (.int .i64 l.le), .s (.int .i64 l.wa), .s (.int .i64 l.gu)]
def Rl.dat (r : Rl) : Dat := .agg [.view 1 (strDs r.us), .view 1 (strDs r.gs), .view 1 (strDs r.vs), .view 1 (strDs r.rs), .view 1 (strDs r.ps)]
def lvDs (l : List Lv) : List Dat := l.map Lv.dat
def rlDs (l : List Rl) : List Dat := l.map Rl.dat
def Sm.dat (s : Sm) : Dat := .agg [.s (.str s.nm), .s (.str s.lv), .s (.int .i64 s.rk), .s (.int .i64 s.bb), .view 5 (rlDs s.rl)]
def smDs (l : List Sm) : List Dat := l.map Sm.dat
def Cf.cells (c : Cf) : List Dat := [.s (.int .i64 c.tt), .s (.int .i64 c.pe), .s (.int .i64 c.pr), .s (.int .i64 c.mo), .view 10 (lvDs c.ls), .view 5 (smDs c.ss)]
def Cf.dat (c : Cf) : Dat := .agg c.cells
def zeroL : Lv := ⟨[], 0, 0, 0, 0, 0, 0, 0, 0, 0⟩
def zeroR : Rl := ⟨[], [], [], [], []⟩
def zeroS : Sm := ⟨[], [], 0, 0, []⟩
def unL : Dat → Lv
  | .agg [.s (.str a), .s (.int .i64 b), .s (.int .i64 c), .s (.int .i64 d), .s (.int .i64 e), .s (.int .i64 f), .s (.int .i64 g), .s (.int .i64 h), .s (.int .i64 i), .s (.int .i64 j)] => ⟨a, b, c, d, e, f, g, h, i, j⟩
  | _ => zeroL
def isL : Dat → Bool
  | .agg [.s (.str a), .s (.int .i64 b), .s (.int .i64 c), .s (.int .i64 d), .s (.int .i64 e), .s (.int .i64 f), .s (.int .i64 g), .s (.int .i64 h), .s (.int .i64 i), .s (.int .i64 j)] => true
  | _ => false
def unR : Dat → Rl
  | .agg [.view 1 a, .view 1 b, .view 1 c, .view 1 d, .view 1 e] => ⟨unStr a, unStr b, unStr c, unStr d, unStr e⟩
  | _ => zeroR
def isR : Dat → Bool
  | .agg [.view 1 a, .view 1 b, .view 1 c, .view 1 d, .view 1 e] => isStrs a && (isStrs b && (isStrs c && (isStrs d && isStrs e)))
  | _ => false
def unLv (es : List Dat) : List Lv := es.map unL
def isLv (es : List Dat) : Bool := es.all isL
def unRl (es : List Dat) : List Rl := es.map unR
def isRl (es : List Dat) : Bool := es.all isR
def unS : Dat → Sm
  | .agg [.s (.str a), .s (.str b), .s (.int .i64 c), .s (.int .i64 d), .view 5 e] => ⟨a, b, c, d, unRl e⟩
  | _ => zeroS
def isS : Dat → Bool
  | .agg [.s (.str a), .s (.str b), .s (.int .i64 c), .s (.int .i64 d), .view 5 e] => isRl e
  | _ => false
def unSm (es : List Dat) : List Sm := es.map unS
def isSm (es : List Dat) : Bool := es.all isS

theorem map_un {α : Type} {f : α → Dat} {g : Dat → α} {p : Dat → Bool} (h : ∀ d, p d = true → f (g d) = d) {es : List Dat} (he : es.all p = true) : (es.map g).map f = es := by
  rw [List.map_map]
  conv => rhs; rw [← List.map_id es]
  exact List.map_congr_left fun d hd => h d (List.all_eq_true.1 he d hd)
theorem un_map {α : Type} {f : α → Dat} {g : Dat → α} (h : ∀ x, g (f x) = x) (l : List α) : (l.map f).map g = l := by
  rw [List.map_map]
  conv => rhs; rw [← List.map_id l]
  exact List.map_congr_left fun e _ => h e
theorem all_map {α : Type} {f : α → Dat} {p : Dat → Bool} (h : ∀ x, p (f x) = true) (l : List α) : (l.map f).all p = true := by
  rw [List.all_map, List.all_eq_true]
  exact fun e _ => h e

theorem l_un {d : Dat} (h : isL d = true) : (unL d).dat = d := by
  unfold isL at h
  split at h
  · rfl
  · cases h
theorem lv_un {es : List Dat} (h : isLv es = true) : lvDs (unLv es) = es := map_un (fun _ => l_un) h
theorem un_lv (l : List Lv) : unLv (lvDs l) = l := un_map (fun _ => rfl) l
theorem is_lv (l : List Lv) : isLv (lvDs l) = true := all_map (fun _ => rfl) l
theorem r_un {d : Dat} (h : isR d = true) : (unR d).dat = d := by
  unfold isR at h
  split at h
  · simp only [Bool.and_eq_true] at h
    obtain ⟨h1, h2, h3, h4, h5⟩ := h
    simp only [unR, Rl.dat, strDs_unStr h1, strDs_unStr h2, strDs_unStr h3, strDs_unStr h4, strDs_unStr h5]
  · cases h
theorem rl_un {es : List Dat} (h : isRl es = true) : rlDs (unRl es) = es := map_un (fun _ => r_un) h
theorem un_r (r : Rl) : unR r.dat = r := by
  unfold Rl.dat
  simp only [unR, unStr_strDs]
theorem is_r (r : Rl) : isR r.dat = true := by
  unfold Rl.dat
  simp only [isR, isStrs_strDs, Bool.and_true]
theorem un_rl (l : List Rl) : unRl (rlDs l) = l := un_map un_r l
theorem is_rl (l : List Rl) : isRl (rlDs l) = true := all_map is_r l
theorem s_un {d : Dat} (h : isS d = true) : (unS d).dat = d := by
  unfold isS at h
  split at h
  · simp only [unS, Sm.dat, rl_un h]
  · cases h
theorem sm_un {es : List Dat} (h : isSm es = true) : smDs (unSm es) = es := map_un (fun _ => s_un) h
theorem un_s (s : Sm) : unS s.dat = s := by
  unfold Sm.dat
  simp only [unS, un_rl]
theorem is_s (s : Sm) : isS s.dat = true := by
  unfold Sm.dat
  simp only [isS, is_rl]
theorem un_sm (l : List Sm) : unSm (smDs l) = l := un_map un_s l
theorem is_sm (l : List Sm) : isSm (smDs l) = true := all_map is_s l
theorem lvDs_len (l : List Lv) : (lvDs l).length = l.length := by simp [lvDs]
theorem rlDs_len (l : List Rl) : (rlDs l).length = l.length := by simp [rlDs]
theorem smDs_len (l : List Sm) : (smDs l).length = l.length := by simp [smDs]
theorem lvDs_get {l : List Lv} {i : Nat} {x : Lv} (h : l[i]? = some x) : (lvDs l)[i]? = some x.dat := by rw [lvDs, List.getElem?_map, h]; rfl
theorem rlDs_get {l : List Rl} {i : Nat} {x : Rl} (h : l[i]? = some x) : (rlDs l)[i]? = some x.dat := by rw [rlDs, List.getElem?_map, h]; rfl
theorem smDs_get {l : List Sm} {i : Nat} {x : Sm} (h : l[i]? = some x) : (smDs l)[i]? = some x.dat := by rw [smDs, List.getElem?_map, h]; rfl
end Go.Proofs.YtpmpajodihpkaaaDoor

