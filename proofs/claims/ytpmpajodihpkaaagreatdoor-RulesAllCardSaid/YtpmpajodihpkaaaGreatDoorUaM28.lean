/- The library of this claim and its walks, part 28, joined out of smaller texts. No statement stands in it. -/
import Derived.Test.YtpmpajodihpkaaaGreatDoorUaM19
import Derived.Test.YtpmpajodihpkaaaGreatDoorUaM26
import Derived.Test.YtpmpajodihpkaaaGreatDoorUaM27
import Derived.Laws.Cover3
set_option linter.unusedSectionVars false
set_option linter.unusedSimpArgs false
set_option linter.unusedVariables false
namespace Go.Ua
open Go Go.Proofs
section
variable {P : Program} [Globs P] {τ : Tab} {cx : Cx P} {Q : Exit → Act → World → Prop}
theorem AKp.isNil (hτ : TabOK P τ) {n : Nat} (hn : cx.nt = n) {all r : List Oper} {k : List KI} {S : St} {o : Oper} {t e : TypeId} {xo yo : Operand} {u : TypeId} {kk : Nat} {es : List Dat}
   (ho : o.op = .binOp .eql t xo yo u) (hx : evl S xo = .d (.view kk es)) (hy : evl S yo = .d (.s .sl0)) (hk : kindOf τ t = .slice e) (hg : guardB all S o = some true) (hd : dstB n o = true)
   (h : ∀ b : Bool, (b = true → es = []) → AKp P cx Q (.ops all r :: k, S.put o.dst (.d (.s (.bool b))))) : AKp P cx Q (.ops all (o :: r) :: k, S) := by
 intro ι a w H
 show wpList P all.toArray (den P cx Q k) (o :: r) a w
 unfold wpList
 rw [guardB_spec H hg, if_pos rfl]
 refine .inl ?_
 have hvx := H.evl xo
 have hvy := H.evl yo
 rw [hx] at hvx
 rw [hy] at hvy
 have ey := rep_s hvy
 obtain ⟨d, i, y, _, _, hu, _, _, hk'⟩ := kindOf_run hτ hk (fun _ _ => trivial) (by simp)
 simp only [TK.ok] at hk'
 subst hk'
 have hd' := dstB_lt (by rw [← hn] at hd; exact hd)
 obtain ⟨ad, l, c, hv, he⟩ : ∃ (ad : Option Addr) (l c : Nat), a.eval xo = .slice ad l c ∧ (ad.isNone = true → es = []) := by
   generalize a.eval xo = v at hvx
   cases rep_d hvx with
   | nil k => exact ⟨none, 0, 0, rfl, fun _ => rfl⟩
   | view k es ad cap f => exact ⟨some ad, _, cap, rfl, fun h => by cases h⟩
 have hrun : (execOp a.eval o).run P w = .ok (.value (.bool ad.isNone)) w := by
   have heq := run_equal_slice_nil (P := P) w t e ad l c hu
   simp only [execOp, ho, hv, ey, Sc.val]
   simp only [Sem.run_bind]
   rw [eqGuard_plain (P := P) (w := w) (op := .eql) (t := t) (xo := xo) (yo := yo) (v := .slice ad l c) (u := .slice none 0 0) (.inl ⟨by simp, by simp⟩)]
   simp [Go.binOp, heq]
 unfold Oper.wp
 rw [hrun]
 have := h ad.isNone he ι (a.put o.dst (.bool ad.isNone)) w (H.put hd' (.d _ _ (.s (.bool _) trivial)))
 exact this
theorem AKp.stepR {F : Fam} (hF : F = Fam.real) (hτ : TabOK P τ) {n : Nat} (hn : cx.nt = n) {all r : List Oper} {k : List KI} {S S' : St} {o : Oper} (hg : guardB all S o = some true)
   (hs : stepOp (Ar.of F) τ n S o = some S') (next : AKp P cx Q (.ops all r :: k, S')) : AKp P cx Q (.ops all (o :: r) :: k, S) := by
 subst hF
 subst hn
 intro ι a w H
 show wpList P all.toArray (den P cx Q k) (o :: r) a w
 unfold wpList
 rw [guardB_spec H hg, if_pos rfl]
 exact .inl (stepOp_wp hτ H hs fun ι' a' w' H' => next ι' a' w' H')
inductive AKo (P : Program) [Globs P] (cx : Cx P) (Q : Exit → Act → World → Prop) (p : List Oper × List Oper × List KI) : Option St → Prop where
 | some {S' : St} (h : AKp P cx Q (.ops p.1 p.2.1 :: p.2.2, S')) : AKo P cx Q p (some S')
theorem AKp.stepO {F : Fam} (hF : F = Fam.real) (hτ : TabOK P τ) {n : Nat} (hn : cx.nt = n) {all r : List Oper} {k : List KI} {S : St} {o : Oper} (hg : guardB all S o = some true)
   (hs : AKo P cx Q (all, r, k) (stepOp (Ar.of F) τ n S o)) : AKp P cx Q (.ops all (o :: r) :: k, S) := by
 cases ho : stepOp (Ar.of F) τ n S o with
 | none => rw [ho] at hs; cases hs
 | some S' =>
   rw [ho] at hs
   cases hs with
   | some h => exact AKp.stepR hF hτ hn hg ho h
theorem AKl.invTs {F : Fam} (hF : F = Fam.real) (hτ : TabOK P τ) (hm : P.follows .mixedOrders = true) {nn : Nat} (hn : cx.nt = nn) {c : Code} {k : List KI} {S : St} {K : List (Nat × AV)} (h0 : cx.w0.fr ≤ S.fr) (sp : List Nat) (fz : Bool) (G : Tbl) (hG : TblOK P G)
   (I : Nat → List (Nat × AV) → List (Nat × Blk) → Prop) (n : Nat) {vs : List (Nat × AV)} {hs : List (Nat × Blk)}
   (hI : I n vs hs) (h1 : leT0 S.fr S.t (appT vs K)) (h2 : leH0 S.fr S.h hs)
   (round : ∀ (J : St → Prop) n vs hs, (∀ m vs hs, m < n → I m vs hs → J ⟨appT vs K, hs, S.fr⟩) → I n vs hs → AKt P cx Q (Ua.runT F τ nn fz G sp 100000 [] (.code c :: .back J :: k) ⟨appT vs K, hs, S.fr⟩)) : AKl P cx Q c k S K := by
 intro hK
 refine AK.keepL ⟨appT vs K, hs, S.fr⟩ h0 h1 h2 (AK.loop (fun n S' => ∃ vs hs, I n vs hs ∧ S' = ⟨appT vs K, hs, S.fr⟩) n ⟨vs, hs, hI, rfl⟩ ?_)
 rintro n S' ⟨vs, hs, hI, rfl⟩
 refine AK.runTn hF hτ hm hn sp fz G hG h0 (round _ n vs hs ?_ hI)
 intro m vs hs hm hI
 exact ⟨m, hm, vs, hs, hI, rfl⟩
theorem AK.backMono {c : Code} {k : List KI} {S : St} {J J' : St → Prop} (hJ : ∀ S, J S → J' S) (h : AK P cx Q (.code c :: .back J :: k) S) : AK P cx Q (.code c :: .back J' :: k) S := by
 intro ι a w H
 refine Code.wp_mono ?_ (h ι a w H)
 intro e a' w' hq
 cases e with
 | normal => obtain ⟨S', ι', h1, h2⟩ := hq; exact ⟨S', ι', hJ _ h1, h2⟩
 | exit id => exact hq
 | goto l => exact hq
 | ret => exact hq
 | panic ch => exact hq
 | outgrown => exact hq
def AKround (P : Program) [Globs P] (cx : Cx P) (Q : Exit → Act → World → Prop) (c : Code) (k : List KI) : Nat → St → Prop
 | 0, _ => False
 | n + 1, S => AK P cx Q (.code c :: .back (AKround P cx Q c k n) :: k) S
def RND (P : Program) [Globs P] (cx : Cx P) (Q : Exit → Act → World → Prop) (c : Code) (k : List KI) : Nat → (St → Prop) → Prop
 | 0, _ => True
 | n + 1, J => ∃ J', RND P cx Q c k n J' ∧ ∀ S', AK P cx Q (.code c :: .back J' :: k) S' → J S'
theorem RND_of (c : Code) (k : List KI) : ∀ n, RND P cx Q c k n (AKround P cx Q c k n)
 | 0 => trivial
 | n + 1 => ⟨_, RND_of c k n, fun S' h => h⟩
theorem AKp.unroll (n : Nat) {c : Code} {k : List KI} {S : St} (h : ∀ J, RND P cx Q c k n J → AK P cx Q (.code c :: .back J :: k) S) : AKp P cx Q (.code (.loop c) :: k, S) := by
 refine AK.loop (I := fun n S => AKround P cx Q c k n S) (n + 1) (h _ (RND_of c k n)) ?_
 intro n S hn
 cases n with
 | zero => exact hn.elim
 | succ n => exact AK.backMono (fun S' h' => ⟨n, Nat.lt_succ_self n, h'⟩) hn
theorem AKp.backTo {k : List KI} {S : St} {J : St → Prop} (h : J S) : AKp P cx Q (.back J :: k, S) := fun ι a w H => ⟨S, ι, h, H⟩
end
end Go.Ua
namespace Go.Proofs.YtpmpajodihpkaaaGreatDoor
open Go Go.Proofs Go.Ua Go.Extern
abbrev Wd := List UInt8
structure Lv where
 nm : Wd
 kd : Int
 sh : Int
 ld : Int
 bo : Int
 qu : Int
 ha : Int
 le : Int
 wa : Int
 gu : Int
structure Rl where
 us : List Wd
 gs : List Wd
 vs : List Wd
 rs : List Wd
 ps : List Wd
structure Sm where
 nm : Wd
 lv : Wd
 rk : Int
 bb : Int
 rl : List Rl
structure Cf where
 tt : Int
 pe : Int
 pr : Int
 mo : Int
 ls : List Lv
 ss : List Sm
def Lv.dat (l : Lv) : Dat := .agg [.s (.str l.nm), .s (.int .i64 l.kd), .s (.int .i64 l.sh), .s (.int .i64 l.ld), .s (.int .i64 l.bo), .s (.int .i64 l.qu), .s (.int .i64 l.ha), .s (.int .i64 l.le), .s (.int .i64 l.wa), .s (.int .i64 l.gu)]
def Rl.dat (r : Rl) : Dat := .agg [.view 1 (strDs r.us), .view 1 (strDs r.gs), .view 1 (strDs r.vs), .view 1 (strDs r.rs), .view 1 (strDs r.ps)]
def lvDs (l : List Lv) : List Dat := l.map Lv.dat
def rlDs (l : List Rl) : List Dat := l.map Rl.dat
def Sm.dat (s : Sm) : Dat := .agg [.s (.str s.nm), .s (.str s.lv), .s (.int .i64 s.rk), .s (.int .i64 s.bb), .view 5 (rlDs s.rl)]
def smDs (l : List Sm) : List Dat := l.map Sm.dat
def Cf.cells (c : Cf) : List Dat := [.s (.int .i64 c.tt), .s (.int .i64 c.pe), .s (.int .i64 c.pr), .s (.int .i64 c.mo), .view 10 (lvDs c.ls), .view 5 (smDs c.ss)]
def Cf.dat (c : Cf) : Dat := .agg c.cells
def zeroL : Lv := ⟨[], 0, 0, 0, 0, 0, 0, 0, 0, 0⟩
def zeroR : Rl := ⟨[], [], [], [], []⟩
def zeroS : Sm := ⟨[], [], 0, 0, []⟩
def zeroC : Cf := ⟨0, 0, 0, 0, [], []⟩
def unL : Dat → Lv
 | .agg [.s (.str a), .s (.int .i64 b), .s (.int .i64 c), .s (.int .i64 d), .s (.int .i64 e), .s (.int .i64 f), .s (.int .i64 g), .s (.int .i64 h), .s (.int .i64 i), .s (.int .i64 j)] => ⟨a, b, c, d, e, f, g, h, i, j⟩
 | _ => zeroL
def isL : Dat → Bool
 | .agg [.s (.str a), .s (.int .i64 b), .s (.int .i64 c), .s (.int .i64 d), .s (.int .i64 e), .s (.int .i64 f), .s (.int .i64 g), .s (.int .i64 h), .s (.int .i64 i), .s (.int .i64 j)] => true
 | _ => false
def unR : Dat → Rl
 | .agg [.view 1 a, .view 1 b, .view 1 c, .view 1 d, .view 1 e] => ⟨unStr a, unStr b, unStr c, unStr d, unStr e⟩
 | _ => zeroR
def isR : Dat → Bool
 | .agg [.view 1 a, .view 1 b, .view 1 c, .view 1 d, .view 1 e] => isStrs a && (isStrs b && (isStrs c && (isStrs d && isStrs e)))
 | _ => false
def unLv (es : List Dat) : List Lv := es.map unL
def isLv (es : List Dat) : Bool := es.all isL
def unRl (es : List Dat) : List Rl := es.map unR
def isRl (es : List Dat) : Bool := es.all isR
def unS : Dat → Sm
 | .agg [.s (.str a), .s (.str b), .s (.int .i64 c), .s (.int .i64 d), .view 5 e] => ⟨a, b, c, d, unRl e⟩
 | _ => zeroS
def isS : Dat → Bool
 | .agg [.s (.str a), .s (.str b), .s (.int .i64 c), .s (.int .i64 d), .view 5 e] => isRl e
 | _ => false
def unSm (es : List Dat) : List Sm := es.map unS
def isSm (es : List Dat) : Bool := es.all isS
theorem map_un {α : Type} {f : α → Dat} {g : Dat → α} {p : Dat → Bool} (h : ∀ d, p d = true → f (g d) = d) {es : List Dat} (he : es.all p = true) : (es.map g).map f = es := by
 rw [List.map_map]
 conv => rhs; rw [← List.map_id es]
 exact List.map_congr_left fun d hd => h d (List.all_eq_true.1 he d hd)
theorem un_map {α : Type} {f : α → Dat} {g : Dat → α} (h : ∀ x, g (f x) = x) (l : List α) : (l.map f).map g = l := by
 rw [List.map_map]
 conv => rhs; rw [← List.map_id l]
 exact List.map_congr_left fun e _ => h e
theorem all_map {α : Type} {f : α → Dat} {p : Dat → Bool} (h : ∀ x, p (f x) = true) (l : List α) : (l.map f).all p = true := by
 rw [List.all_map, List.all_eq_true]
 exact fun e _ => h e
theorem l_un {d : Dat} (h : isL d = true) : (unL d).dat = d := by
 unfold isL at h
 split at h
 · rfl
 · cases h
theorem lv_un {es : List Dat} (h : isLv es = true) : lvDs (unLv es) = es := map_un (fun _ => l_un) h
theorem un_lv (l : List Lv) : unLv (lvDs l) = l := un_map (fun _ => rfl) l
theorem is_lv (l : List Lv) : isLv (lvDs l) = true := all_map (fun _ => rfl) l
theorem r_un {d : Dat} (h : isR d = true) : (unR d).dat = d := by
 unfold isR at h
 split at h
 · simp only [Bool.and_eq_true] at h
   obtain ⟨h1, h2, h3, h4, h5⟩ := h
   simp only [unR, Rl.dat, strDs_unStr h1, strDs_unStr h2, strDs_unStr h3, strDs_unStr h4, strDs_unStr h5]
 · cases h
theorem rl_un {es : List Dat} (h : isRl es = true) : rlDs (unRl es) = es := map_un (fun _ => r_un) h
theorem un_r (r : Rl) : unR r.dat = r := by
 unfold Rl.dat
 simp only [unR, unStr_strDs]
theorem is_r (r : Rl) : isR r.dat = true := by
 unfold Rl.dat
 simp only [isR, isStrs_strDs, Bool.and_true]
theorem un_rl (l : List Rl) : unRl (rlDs l) = l := un_map un_r l
theorem is_rl (l : List Rl) : isRl (rlDs l) = true := all_map is_r l
theorem s_un {d : Dat} (h : isS d = true) : (unS d).dat = d := by
 unfold isS at h
 split at h
 · simp only [unS, Sm.dat, rl_un h]
 · cases h
theorem sm_un {es : List Dat} (h : isSm es = true) : smDs (unSm es) = es := map_un (fun _ => s_un) h
theorem un_s (s : Sm) : unS s.dat = s := by
 unfold Sm.dat
 simp only [unS, un_rl]
theorem is_s (s : Sm) : isS s.dat = true := by
 unfold Sm.dat
 simp only [isS, is_rl]
theorem un_sm (l : List Sm) : unSm (smDs l) = l := un_map un_s l
theorem is_sm (l : List Sm) : isSm (smDs l) = true := all_map is_s l
theorem lvDs_len (l : List Lv) : (lvDs l).length = l.length := by simp [lvDs]
theorem rlDs_len (l : List Rl) : (rlDs l).length = l.length := by simp [rlDs]
theorem smDs_len (l : List Sm) : (smDs l).length = l.length := by simp [smDs]
theorem lvDs_get {l : List Lv} {i : Nat} {x : Lv} (h : l[i]? = some x) : (lvDs l)[i]? = some x.dat := by rw [lvDs, List.getElem?_map, h]; rfl
theorem rlDs_get {l : List Rl} {i : Nat} {x : Rl} (h : l[i]? = some x) : (rlDs l)[i]? = some x.dat := by rw [rlDs, List.getElem?_map, h]; rfl
theorem smDs_get {l : List Sm} {i : Nat} {x : Sm} (h : l[i]? = some x) : (smDs l)[i]? = some x.dat := by rw [smDs, List.getElem?_map, h]; rfl
end Go.Proofs.YtpmpajodihpkaaaGreatDoor
namespace Go.Proofs.YtpmpajodihpkaaaGreatDoor
open Go Go.Proofs Go.Ua Go.Extern
set_option maxRecDepth 10000
def lstB (l : List Wd) : Bool := decide (l.length ≤ 40) && l.all fun w => decide (w.length ≤ 1000)
def lstN (l : List Wd) : Nat := (l.map fun w => w.length + 1).sum
def rlLs (r : Rl) : List (List Wd) := [r.us, r.gs, r.vs, r.rs, r.ps]
def rlB (r : Rl) : Bool := (rlLs r).all lstB
def rlN (r : Rl) : Nat := ((rlLs r).map lstN).sum
def smB (s : Sm) : Bool := decide (s.rl.length ≤ 40) && (decide (s.nm.length ≤ 1000) && (decide (s.lv.length ≤ 1000) && s.rl.all rlB))
def smN (s : Sm) : Nat := (s.rl.map rlN).sum
def smallF (c : Cf) : Bool := decide (c.ls.length ≤ 40) && (decide (c.ss.length ≤ 80) && (c.ls.all (fun l => decide (l.nm.length ≤ 1000)) && (c.ss.all smB && decide ((c.ss.map smN).sum ≤ 200000))))
theorem sum_le {α : Type} {f : α → Nat} {p : α → Bool} {m : Nat} (h : ∀ x, p x = true → f x ≤ m) : ∀ {l : List α}, l.all p = true → (l.map f).sum ≤ l.length * m
 | [], _ => by simp
 | x :: l, hl => by
   simp only [List.all_cons, Bool.and_eq_true] at hl
   have h1 := h x hl.1
   have h2 := sum_le h hl.2
   simp only [List.map_cons, List.sum_cons, List.length_cons, Nat.succ_mul]
   omega
theorem lstN_le {l : List Wd} (h : lstB l = true) : lstN l ≤ 40040 := by
 simp only [lstB, Bool.and_eq_true, decide_eq_true_eq] at h
 have := sum_le (f := fun w : Wd => w.length + 1) (m := 1001) (fun x hx => by have := of_decide_eq_true hx; omega) h.2
 unfold lstN
 have h2 : l.length * 1001 ≤ 40 * 1001 := Nat.mul_le_mul_right _ h.1
 omega
theorem rlN_le {r : Rl} (h : rlB r = true) : rlN r ≤ 200200 := by
 have := sum_le (f := lstN) (m := 40040) (fun x hx => lstN_le hx) h
 unfold rlN
 simpa [rlLs] using this
theorem smN_le {s : Sm} (h : smB s = true) : smN s ≤ 8008000 := by
 simp only [smB, Bool.and_eq_true, decide_eq_true_eq] at h
 have := sum_le (f := rlN) (m := 200200) (fun x hx => rlN_le hx) h.2.2.2
 have h2 : s.rl.length * 200200 ≤ 40 * 200200 := Nat.mul_le_mul_right _ h.1
 unfold smN
 omega
theorem sum_take {α : Type} {f : α → Nat} {l : List α} {i : Nat} {x : α} (h : l[i]? = some x) : ((l.take (i + 1)).map f).sum = ((l.take i).map f).sum + f x := by
 rw [List.take_add_one, h]
 simp
theorem add_nn {F : Fam} (hF : F = Fam.real) {a b : Int} {m n : Nat} (ha : a = m) (hb : b = n) (h : m + n < 9223372036854775807) : F .wrap .i64 (F .add a b) = ((m + n : Nat) : Int) := by
 rw [hF, ha, hb]
 show IntKind.i64.wrap ((m : Int) + (n : Int)) = _
 rw [w_i64 (by omega) (by omega)]
 simp
set_option maxHeartbeats 2000000 in
theorem Small_spec (c : Cf) : ESpec Tryz.prog 5 [.d (.agg [.s (.int .i64 c.tt), .s (.int .i64 c.pe), .s (.int .i64 c.pr), .s (.int .i64 c.mo), .view 10 (lvDs c.ls), .view 5 (smDs c.ss)])] (fun x => x = .d (.s (.bool (smallF c)))) := by
 obtain ⟨Z, hZ⟩ : ∃ z, z = smallF c := ⟨_, rfl⟩
 rw [← hZ]
 obtain ⟨tt, pe, pr, mo, ls, ss⟩ := c
 simp only
 obtain ⟨ld, hld⟩ : ∃ z, z = lvDs ls := ⟨_, rfl⟩
 obtain ⟨sd, hsd⟩ : ∃ z, z = smDs ss := ⟨_, rfl⟩
 rw [← hld, ← hsd]
 have hll : ld.length = ls.length := by rw [hld, lvDs_len]
 have hsl : sd.length = ss.length := by rw [hsd, smDs_len]
 have hG : TblOK Tryz.prog [] := trivial
 refine ESpec.enter Tryz.func5 (by kernel_rfl) rfl (Nat.le_of_ble_eq_true rfl) fun hok cx hnt hfr => ?_
 obtain ⟨F, hF⟩ := real_ex
 refine AK.runT hF tabOK hmix hnt hfr true _ hG ?_
 conv => arg 4; cbv
 repeat' (first|with_reducible (first|refine qAh ?_|refine qAt ?_|refine qAf ?_|refine qAy (by assumption) ?_|refine qAn (by assumption) ?_|refine qAd (fun hb => ?_) (fun hb => ?_)|refine qAe ?_ (fun hb => ?_)|refine qAl ?_)|((with_reducible show _=true); assumption))
 iterate 2
   · clear hok hG
     refine AKp.doneE tabOK hfr (by rfl) ?_
     show _ = _
     simp only [tupAV]
     rw [hZ]
     simp only [hF, f_ltI, f_leI, f_eqI, f_eqS, f_eqB, f_not, f_andB, f_orB, f_lenS, f_lenD, f_hasS, f_atS, f_hasC, f_subS, f_hasCat, f_app, f_wrap, f_add, f_sub, f_mul, f_appD, f_fits, f_hasV, f_subV, decide_eq_true_eq, decide_eq_false_iff_not, beq_iff_eq, beq_eq_false_iff_ne, Bool.and_eq_true, Bool.and_eq_false_iff, Bool.not_eq_true, Bool.not_eq_false, Bool.not_eq_eq_eq_not, Bool.not_true, Bool.not_false] at *
     rw [hll, hsl] at *
     first
       | (simp [smallF]; omega)
       | (simp [smallF, *]; omega)
 have h40 : ls.length ≤ 40 := by
   have h : F .ltI 40 (F .lenD ld) = false := by assumption
   rw [hF, f_ltI, f_lenD, hll] at h
   have := of_decide_eq_false h
   omega
 have h80 : ss.length ≤ 80 := by
   have h : F .ltI 80 (F .lenD sd) = false := by assumption
   rw [hF, f_ltI, f_lenD, hsl] at h
   have := of_decide_eq_false h
   omega
 have hZ2 : Z = (ls.all (fun l => decide (l.nm.length ≤ 1000)) && (ss.all smB && decide ((ss.map smN).sum ≤ 200000))) := by rw [hZ]; simp [smallF, h40, h80]
 clear hZ
 refine AKp.enterLoop 22 ?_
 conv => arg 7; cbv
 refine AKl.invT hF tabOK hmix hnt hfr true _ hG (fun n vs hs => ∃ (i : Nat) (iv : Int), i + n = ls.length ∧ iv = i ∧ (ls.take i).all (fun l => decide (l.nm.length ≤ 1000)) = true ∧ vs = [(4, .d (.s (.int .i64 iv))), (3, .d (.s (.int .i64 0)))] ∧ hs = [(0, .cs 25 [.d (.s (.int .i64 tt)), .d (.s (.int .i64 pe)), .d (.s (.int .i64 pr)), .d (.s (.int .i64 mo)), .d (.view 10 ld), .d (.view 5 sd)])]) ls.length ⟨0, _, by omega, rfl, by rfl, rfl, rfl⟩ (by repeat (first | exact True.intro | refine ⟨⟨rfl, rfl⟩, ?_⟩)) (by repeat (first | exact True.intro | refine ⟨⟨rfl, rfl, rfl⟩, ?_⟩)) ?_
 rintro J n vs hs hJ ⟨i, iv, hi, hiv, hall, rfl, rfl⟩
 conv => arg 4; cbv
 refine AKt.node (fun hb => ?_) (fun hb => ?_)
 · have hlt : i < ls.length := by rw [hF, f_ltI, f_lenD, hll, hiv] at hb; have := of_decide_eq_true hb; omega
   obtain ⟨x, hx⟩ : ∃ x, ls[i]? = some x := ⟨_, List.getElem?_eq_getElem hlt⟩
   have hd : ld[i]? = some x.dat := by rw [hld]; exact lvDs_get hx
   have hx_ : F .hasD ld iv [.str, .int .i64, .int .i64, .int .i64, .int .i64, .int .i64, .int .i64, .int .i64, .int .i64, .int .i64] = true := t_hasD hF hd hiv rfl
   obtain ⟨x0, hx0⟩ : ∃ z, z = x.nm := ⟨_, rfl⟩
   try rw [show F .strA ld iv 0 = x0 by rw [hx0]; exact t_strA hF hd hiv rfl]
   obtain ⟨x1, hx1⟩ : ∃ z, z = x.kd := ⟨_, rfl⟩
   try rw [show F .intA ld iv 1 = x1 by rw [hx1]; exact t_intA hF hd hiv rfl]
   obtain ⟨x2, hx2⟩ : ∃ z, z = x.sh := ⟨_, rfl⟩
   try rw [show F .intA ld iv 2 = x2 by rw [hx2]; exact t_intA hF hd hiv rfl]
   obtain ⟨x3, hx3⟩ : ∃ z, z = x.ld := ⟨_, rfl⟩
   try rw [show F .intA ld iv 3 = x3 by rw [hx3]; exact t_intA hF hd hiv rfl]
   obtain ⟨x4, hx4⟩ : ∃ z, z = x.bo := ⟨_, rfl⟩
   try rw [show F .intA ld iv 4 = x4 by rw [hx4]; exact t_intA hF hd hiv rfl]
   obtain ⟨x5, hx5⟩ : ∃ z, z = x.qu := ⟨_, rfl⟩
   try rw [show F .intA ld iv 5 = x5 by rw [hx5]; exact t_intA hF hd hiv rfl]
   obtain ⟨x6, hx6⟩ : ∃ z, z = x.ha := ⟨_, rfl⟩
   try rw [show F .intA ld iv 6 = x6 by rw [hx6]; exact t_intA hF hd hiv rfl]
   obtain ⟨x7, hx7⟩ : ∃ z, z = x.le := ⟨_, rfl⟩
   try rw [show F .intA ld iv 7 = x7 by rw [hx7]; exact t_intA hF hd hiv rfl]
   obtain ⟨x8, hx8⟩ : ∃ z, z = x.wa := ⟨_, rfl⟩
   try rw [show F .intA ld iv 8 = x8 by rw [hx8]; exact t_intA hF hd hiv rfl]
   obtain ⟨x9, hx9⟩ : ∃ z, z = x.gu := ⟨_, rfl⟩
   try rw [show F .intA ld iv 9 = x9 by rw [hx9]; exact t_intA hF hd hiv rfl]
   refine AKt.need hx_ fun _ => ?_
   refine AKt.node (fun hc => ?_) (fun hc => ?_)
   · have : ¬ x.nm.length ≤ 1000 := by rw [hF, f_ltI, f_lenS, hx0] at hc; have := of_decide_eq_true hc; omega
     repeat' (first|with_reducible (first|refine qAh ?_|refine qAt ?_|refine qAf ?_|refine qAy (by assumption) ?_|refine qAn (by assumption) ?_|refine qAd (fun hb => ?_) (fun hb => ?_)|refine qAe ?_ (fun hb => ?_)|refine qAl ?_)|((with_reducible show _=true); assumption))
     refine AKp.doneE tabOK hfr (by rfl) ?_
     show _ = _
     simp only [tupAV]
     rw [hZ2, all_false (i := i) hx (decide_eq_false this)]
     rfl
   · have : x.nm.length ≤ 1000 := by rw [hF, f_ltI, f_lenS, hx0] at hc; have := of_decide_eq_false hc; omega
     repeat' (first|with_reducible (first|refine qAh ?_|refine qAt ?_|refine qAf ?_|refine qAy (by assumption) ?_|refine qAn (by assumption) ?_|refine qAd (fun hb => ?_) (fun hb => ?_)|refine qAe ?_ (fun hb => ?_)|refine qAl ?_)|((with_reducible show _=true); assumption))
     refine AKp.again _ hfr (by repeat (first | exact True.intro | refine ⟨⟨rfl, rfl⟩, ?_⟩)) (by repeat (first | exact True.intro | refine ⟨⟨rfl, rfl, rfl⟩, ?_⟩)) (hJ (n - 1) _ _ (by omega) ⟨i + 1, _, by omega, inc_i hF hiv (by omega), all_take_succ hx hall (decide_eq_true this), rfl, rfl⟩)
 have hge : ¬ i < ls.length := by rw [hF, f_ltI, f_lenD, hll, hiv] at hb; have := of_decide_eq_false hb; omega
 rw [List.take_of_length_le (by omega)] at hall
 have hZ3 : Z = (ss.all smB && decide ((ss.map smN).sum ≤ 200000)) := by rw [hZ2, hall]; rfl
 clear hZ2 hJ J
 repeat' (first|with_reducible (first|refine qAh ?_|refine qAt ?_|refine qAf ?_|refine qAy (by assumption) ?_|refine qAn (by assumption) ?_|refine qAd (fun hb => ?_) (fun hb => ?_)|refine qAe ?_ (fun hb => ?_)|refine qAl ?_)|((with_reducible show _=true); assumption))
 refine AKp.enterLoop 37 ?_
 conv => arg 7; cbv
 refine AKl.invT hF tabOK hmix hnt hfr true _ hG (fun n vs hs => ∃ (i N : Nat) (iv nv : Int), i + n = ss.length ∧ iv = i ∧ nv = N ∧ N = ((ss.take i).map smN).sum ∧ (ss.take i).all smB = true ∧ vs = [(5, .d (.s (.int .i64 iv))), (3, .d (.s (.int .i64 nv)))] ∧ hs = [(0, .cs 25 [.d (.s (.int .i64 tt)), .d (.s (.int .i64 pe)), .d (.s (.int .i64 pr)), .d (.s (.int .i64 mo)), .d (.view 10 ld), .d (.view 5 sd)])]) ss.length ⟨0, 0, _, _, by omega, rfl, rfl, by rfl, by rfl, rfl, rfl⟩ (by repeat (first | exact True.intro | refine ⟨⟨rfl, rfl⟩, ?_⟩)) (by repeat (first | exact True.intro | refine ⟨⟨rfl, rfl, rfl⟩, ?_⟩)) ?_
 rintro J n vs hs hJ ⟨i, N, iv, nv, hi, hiv, hnv, hN, hall, rfl, rfl⟩
 conv => arg 4; cbv
 refine AKt.node (fun hb => ?_) (fun hb => ?_)
 rotate_left
 · have hge : ¬ i < ss.length := by rw [hF, f_ltI, f_lenD, hsl, hiv] at hb; have := of_decide_eq_false hb; omega
   rw [List.take_of_length_le (by omega)] at hall hN
   repeat' (first|with_reducible (first|refine qAh ?_|refine qAt ?_|refine qAf ?_|refine qAy (by assumption) ?_|refine qAn (by assumption) ?_|refine qAd (fun hb => ?_) (fun hb => ?_)|refine qAe ?_ (fun hb => ?_)|refine qAl ?_)|((with_reducible show _=true); assumption))
   refine AKp.doneE tabOK hfr (by rfl) ?_
   show _ = _
   simp only [tupAV]
   rw [hZ3, hall, hF, f_leI, hnv, hN]
   simp
   omega
 have hlt : i < ss.length := by rw [hF, f_ltI, f_lenD, hsl, hiv] at hb; have := of_decide_eq_true hb; omega
 have hNb : N ≤ 640640000 := by
   have := sum_le (f := smN) (m := 8008000) (fun x hx => smN_le hx) hall
   have h2 : (ss.take i).length * 8008000 ≤ 80 * 8008000 := Nat.mul_le_mul_right _ (by simp; omega)
   omega
 obtain ⟨x, hx⟩ : ∃ x, ss[i]? = some x := ⟨_, List.getElem?_eq_getElem hlt⟩
 have hd : sd[i]? = some x.dat := by rw [hsd]; exact smDs_get hx
 have hx_ : F .hasD sd iv [.str, .str, .int .i64, .int .i64, .view 5] = true := t_hasD hF hd hiv rfl
 obtain ⟨x0, hx0⟩ : ∃ z, z = x.nm := ⟨_, rfl⟩
 try rw [show F .strA sd iv 0 = x0 by rw [hx0]; exact t_strA hF hd hiv rfl]
 obtain ⟨x1, hx1⟩ : ∃ z, z = x.lv := ⟨_, rfl⟩
 try rw [show F .strA sd iv 1 = x1 by rw [hx1]; exact t_strA hF hd hiv rfl]
 obtain ⟨x2, hx2⟩ : ∃ z, z = x.rk := ⟨_, rfl⟩
 try rw [show F .intA sd iv 2 = x2 by rw [hx2]; exact t_intA hF hd hiv rfl]
 obtain ⟨x3, hx3⟩ : ∃ z, z = x.bb := ⟨_, rfl⟩
 try rw [show F .intA sd iv 3 = x3 by rw [hx3]; exact t_intA hF hd hiv rfl]
 obtain ⟨x4, hx4⟩ : ∃ z, z = rlDs x.rl := ⟨_, rfl⟩
 try rw [show F .viewA sd iv 4 = x4 by rw [hx4]; exact t_viewA hF hd hiv rfl]
 have bad : smB x = false → Z = false := fun h => by rw [hZ3, all_false (i := i) hx h]; rfl
 have hrl : x4.length = x.rl.length := by rw [hx4, rlDs_len]
 refine AKt.need hx_ fun _ => ?_
 repeat' (first|with_reducible (first|refine qAh ?_|refine qAt ?_|refine qAf ?_|refine qAy (by assumption) ?_|refine qAn (by assumption) ?_|refine qAd (fun hb => ?_) (fun hb => ?_)|refine qAe ?_ (fun hb => ?_)|refine qAl ?_)|((with_reducible show _=true); assumption))
 iterate 3
   · clear hok hG hJ
     have : smB x = false := by
       rw [hx0, hx1] at *
       simp only [hF, f_ltI, f_leI, f_eqI, f_eqS, f_eqB, f_not, f_andB, f_orB, f_lenS, f_lenD, f_hasS, f_atS, f_hasC, f_subS, f_hasCat, f_app, f_wrap, f_add, f_sub, f_mul, f_appD, f_fits, f_hasV, f_subV, decide_eq_true_eq, decide_eq_false_iff_not, beq_iff_eq, beq_eq_false_iff_ne, Bool.and_eq_true, Bool.and_eq_false_iff, Bool.not_eq_true, Bool.not_eq_false, Bool.not_eq_eq_eq_not, Bool.not_true, Bool.not_false] at *
       rw [hrl] at *
       first
         | (simp [smB, *]; omega)
         | (simp [smB]; omega)
     refine AKp.doneE tabOK hfr (by rfl) ?_
     show _ = _
     simp only [tupAV]
     rw [bad this]
 have g40 : x.rl.length ≤ 40 := by
   have h : F .ltI 40 (F .lenD x4) = false := by assumption
   rw [hF, f_ltI, f_lenD, hrl] at h
   have := of_decide_eq_false h
   omega
 have n40 : x.nm.length ≤ 1000 ∧ x.lv.length ≤ 1000 := by
   have h : F .ltI 1000 (F .lenS x0) = false := by assumption
   have h2 : F .ltI 1000 (F .lenS x1) = false := by assumption
   rw [hF, f_ltI, f_lenS, hx0] at h
   rw [hF, f_ltI, f_lenS, hx1] at h2
   have := of_decide_eq_false h
   have := of_decide_eq_false h2
   omega
 have hsm : smB x = x.rl.all rlB := by simp [smB, g40, n40.1, n40.2]
 rw [hsm] at bad
 refine AKp.enterLoop 65 ?_
 conv => arg 7; cbv
 refine AKl.invT hF tabOK hmix hnt hfr true _ hG (fun m vs hs => ∃ (k M : Nat) (kv mv : Int), k + m = x.rl.length ∧ kv = k ∧ mv = M ∧ M = N + ((x.rl.take k).map rlN).sum ∧ (x.rl.take k).all rlB = true ∧ vs = [(7, .d (.s (.int .i64 kv))), (3, .d (.s (.int .i64 mv)))] ∧ hs = [(1, .cs 43 [.d (.s (.str x0)), .d (.s (.str x1)), .d (.s (.int .i64 x2)), .d (.s (.int .i64 x3)), .d (.view 5 x4)]), (0, .cs 25 [.d (.s (.int .i64 tt)), .d (.s (.int .i64 pe)), .d (.s (.int .i64 pr)), .d (.s (.int .i64 mo)), .d (.view 10 ld), .d (.view 5 sd)])]) x.rl.length ⟨0, N, _, _, by omega, rfl, hnv, by simp, by rfl, rfl, rfl⟩ (by repeat (first | exact True.intro | refine ⟨⟨rfl, rfl⟩, ?_⟩)) (by repeat (first | exact True.intro | refine ⟨⟨rfl, rfl, rfl⟩, ?_⟩)) ?_
 rintro J2 m vs hs hJ2 ⟨k, M, kv, mv, hk, hkv, hmv, hM, hal2, rfl, rfl⟩
 conv => arg 4; cbv
 refine AKt.node (fun hb2 => ?_) (fun hb2 => ?_)
 rotate_left
 · have hge : ¬ k < x.rl.length := by rw [hF, f_ltI, f_lenD, hrl, hkv] at hb2; have := of_decide_eq_false hb2; omega
   rw [List.take_of_length_le (by omega)] at hal2 hM
   repeat' (first|with_reducible (first|refine qAh ?_|refine qAt ?_|refine qAf ?_|refine qAy (by assumption) ?_|refine qAn (by assumption) ?_|refine qAd (fun hb => ?_) (fun hb => ?_)|refine qAe ?_ (fun hb => ?_)|refine qAl ?_)|((with_reducible show _=true); assumption))
   refine AKp.again _ hfr (by repeat (first | exact True.intro | refine ⟨⟨rfl, rfl⟩, ?_⟩)) (by repeat (first | exact True.intro | refine ⟨⟨rfl, rfl, rfl⟩, ?_⟩)) (hJ (n - 1) _ _ (by omega) ⟨i + 1, M, _, _, by omega, inc_i hF hiv (by omega), hmv, by rw [sum_take hx, ← hN, hM]; rfl, all_take_succ hx hall (by rw [hsm]; exact hal2), rfl, rfl⟩)
 have hlt2 : k < x.rl.length := by rw [hF, f_ltI, f_lenD, hrl, hkv] at hb2; have := of_decide_eq_true hb2; omega
 have hMb : M ≤ 648648000 := by
   have := sum_le (f := rlN) (m := 200200) (fun x hx => rlN_le hx) hal2
   have h2 : (x.rl.take k).length * 200200 ≤ 40 * 200200 := Nat.mul_le_mul_right _ (by simp; omega)
   omega
 obtain ⟨r, hr⟩ : ∃ r, x.rl[k]? = some r := ⟨_, List.getElem?_eq_getElem hlt2⟩
 have hdr : x4[k]? = some r.dat := by rw [hx4]; exact rlDs_get hr
 have hr_ : F .hasD x4 kv [.view 1, .view 1, .view 1, .view 1, .view 1] = true := t_hasD hF hdr hkv rfl
 obtain ⟨r0, hr0⟩ : ∃ z, z = strDs r.us := ⟨_, rfl⟩
 try rw [show F .viewA x4 kv 0 = r0 by rw [hr0]; exact t_viewA hF hdr hkv rfl]
 obtain ⟨r1, hr1⟩ : ∃ z, z = strDs r.gs := ⟨_, rfl⟩
 try rw [show F .viewA x4 kv 1 = r1 by rw [hr1]; exact t_viewA hF hdr hkv rfl]
 obtain ⟨r2, hr2⟩ : ∃ z, z = strDs r.vs := ⟨_, rfl⟩
 try rw [show F .viewA x4 kv 2 = r2 by rw [hr2]; exact t_viewA hF hdr hkv rfl]
 obtain ⟨r3, hr3⟩ : ∃ z, z = strDs r.rs := ⟨_, rfl⟩
 try rw [show F .viewA x4 kv 3 = r3 by rw [hr3]; exact t_viewA hF hdr hkv rfl]
 obtain ⟨r4, hr4⟩ : ∃ z, z = strDs r.ps := ⟨_, rfl⟩
 try rw [show F .viewA x4 kv 4 = r4 by rw [hr4]; exact t_viewA hF hdr hkv rfl]
 have bad2 : rlB r = false → Z = false := fun h => bad (all_false (i := k) hr h)
 obtain ⟨vd, hvd⟩ : ∃ z : List Dat, z = [.view 1 r0, .view 1 r1, .view 1 r2, .view 1 r3, .view 1 r4] := ⟨_, rfl⟩
 rw [← hvd]
 have hvd2 : vd = (rlLs r).map fun l => .view 1 (strDs l) := by rw [hvd, hr0, hr1, hr2, hr3, hr4]; rfl
 have hvl : vd.length = 5 := by rw [hvd]; rfl
 have hl5 : (rlLs r).length = 5 := rfl
 refine AKt.need hr_ fun _ => ?_
 repeat' (first|with_reducible (first|refine qAh ?_|refine qAt ?_|refine qAf ?_|refine qAy (by assumption) ?_|refine qAn (by assumption) ?_|refine qAd (fun hb => ?_) (fun hb => ?_)|refine qAe ?_ (fun hb => ?_)|refine qAl ?_)|((with_reducible show _=true); assumption))
 refine AKp.enterLoop 89 ?_
 conv => arg 7; cbv
 refine AKl.invT hF tabOK hmix hnt hfr true _ hG (fun m vs hs => ∃ (j L : Nat) (jv lv : Int), j + m = 5 ∧ jv = j ∧ lv = L ∧ L = M + (((rlLs r).take j).map lstN).sum ∧ ((rlLs r).take j).all lstB = true ∧ vs = [(89, .d (.s (.int .i64 jv))), (3, .d (.s (.int .i64 lv)))] ∧ hs = [(1, .cs 43 [.d (.s (.str x0)), .d (.s (.str x1)), .d (.s (.int .i64 x2)), .d (.s (.int .i64 x3)), .d (.view 5 x4)]), (0, .cs 25 [.d (.s (.int .i64 tt)), .d (.s (.int .i64 pe)), .d (.s (.int .i64 pr)), .d (.s (.int .i64 mo)), .d (.view 10 ld), .d (.view 5 sd)])]) 5 ⟨0, M, _, _, by omega, rfl, hmv, by simp, by rfl, rfl, rfl⟩ (by repeat (first | exact True.intro | refine ⟨⟨rfl, rfl⟩, ?_⟩)) (by repeat (first | exact True.intro | refine ⟨⟨rfl, rfl, rfl⟩, ?_⟩)) ?_
 rintro J3 p vs hs hJ3 ⟨j, L, jv, lv, hj, hjv, hlv, hL, hal3, rfl, rfl⟩
 conv => arg 4; cbv
 refine AKt.node (fun hb3 => ?_) (fun hb3 => ?_)
 rotate_left
 · have hge : ¬ j < 5 := by rw [hF, f_ltI, f_lenD, hvl, hjv] at hb3; have := of_decide_eq_false hb3; omega
   rw [List.take_of_length_le (by rw [hl5]; omega)] at hal3 hL
   repeat' (first|with_reducible (first|refine qAh ?_|refine qAt ?_|refine qAf ?_|refine qAy (by assumption) ?_|refine qAn (by assumption) ?_|refine qAd (fun hb => ?_) (fun hb => ?_)|refine qAe ?_ (fun hb => ?_)|refine qAl ?_)|((with_reducible show _=true); assumption))
   refine AKp.again _ hfr (by repeat (first | exact True.intro | refine ⟨⟨rfl, rfl⟩, ?_⟩)) (by repeat (first | exact True.intro | refine ⟨⟨rfl, rfl, rfl⟩, ?_⟩)) (hJ2 (m - 1) _ _ (by omega) ⟨k + 1, L, _, _, by omega, inc_i hF hkv (by omega), hlv, by rw [sum_take hr, ← Nat.add_assoc, ← hM, hL]; rfl, all_take_succ hr hal2 hal3, rfl, rfl⟩)
 have hlt3 : j < 5 := by rw [hF, f_ltI, f_lenD, hvl, hjv] at hb3; have := of_decide_eq_true hb3; omega
 have hLb : L ≤ 648848200 := by
   have := sum_le (f := lstN) (m := 40040) (fun x hx => lstN_le hx) hal3
   have h2 : ((rlLs r).take j).length * 40040 ≤ 5 * 40040 := Nat.mul_le_mul_right _ (by simp; omega)
   omega
 obtain ⟨l, hl⟩ : ∃ l, (rlLs r)[j]? = some l := ⟨_, List.getElem?_eq_getElem (by rw [hl5]; omega)⟩
 have hdl : vd[j]? = some (.view 1 (strDs l)) := by rw [hvd2, List.getElem?_map, hl]; rfl
 have hhl : F .hasD vd jv [.view 1] = true := t_hasD hF hdl hjv rfl
 obtain ⟨wd, hwd⟩ : ∃ z, z = strDs l := ⟨_, rfl⟩
 rw [show F .viewA vd jv 0 = wd by rw [hwd]; exact t_viewA hF hdl hjv rfl]
 have hwl : wd.length = l.length := by rw [hwd, strDs_length]
 have bad3 : lstB l = false → Z = false := fun h => bad2 (all_false (i := j) hl h)
 refine AKt.need hhl fun _ => ?_
 refine AKt.node (fun hb4 => ?_) (fun hb4 => ?_)
 · have : lstB l = false := by
     rw [hF, f_ltI, f_lenD, hwl] at hb4
     have := of_decide_eq_true hb4
     simp only [lstB, Bool.and_eq_false_iff, decide_eq_false_iff_not]
     exact .inl (by omega)
   repeat' (first|with_reducible (first|refine qAh ?_|refine qAt ?_|refine qAf ?_|refine qAy (by assumption) ?_|refine qAn (by assumption) ?_|refine qAd (fun hb => ?_) (fun hb => ?_)|refine qAe ?_ (fun hb => ?_)|refine qAl ?_)|((with_reducible show _=true); assumption))
   refine AKp.doneE tabOK hfr (by rfl) ?_
   show _ = _
   simp only [tupAV]
   rw [bad3 this]
 have hl40 : l.length ≤ 40 := by
   rw [hF, f_ltI, f_lenD, hwl] at hb4
   have := of_decide_eq_false hb4
   omega
 have hlb : lstB l = l.all fun w => decide (w.length ≤ 1000) := by simp [lstB, hl40]
 rw [hlb] at bad3
 refine AKt.leaf ?_
 refine AKp.enterLoop 96 ?_
 conv => arg 7; cbv
 refine AKl.invT hF tabOK hmix hnt hfr true _ hG (fun m vs hs => ∃ (q W : Nat) (qv wv : Int), q + m = l.length ∧ qv = q ∧ wv = W ∧ W = L + ((l.take q).map fun w => w.length + 1).sum ∧ (l.take q).all (fun w => decide (w.length ≤ 1000)) = true ∧ vs = [(11, .d (.s (.int .i64 qv))), (3, .d (.s (.int .i64 wv)))] ∧ hs = [(1, .cs 43 [.d (.s (.str x0)), .d (.s (.str x1)), .d (.s (.int .i64 x2)), .d (.s (.int .i64 x3)), .d (.view 5 x4)]), (0, .cs 25 [.d (.s (.int .i64 tt)), .d (.s (.int .i64 pe)), .d (.s (.int .i64 pr)), .d (.s (.int .i64 mo)), .d (.view 10 ld), .d (.view 5 sd)])]) l.length ⟨0, L, _, _, by omega, rfl, hlv, by simp, by rfl, rfl, rfl⟩ (by repeat (first | exact True.intro | refine ⟨⟨rfl, rfl⟩, ?_⟩)) (by repeat (first | exact True.intro | refine ⟨⟨rfl, rfl, rfl⟩, ?_⟩)) ?_
 rintro J4 u vs hs hJ4 ⟨q, W, qv, wv, hq, hqv, hwv, hW, hal4, rfl, rfl⟩
 conv => arg 4; cbv
 refine AKt.node (fun hb5 => ?_) (fun hb5 => ?_)
 rotate_left
 · have hge : ¬ q < l.length := by rw [hF, f_ltI, f_lenD, hwl, hqv] at hb5; have := of_decide_eq_false hb5; omega
   rw [List.take_of_length_le (by omega)] at hal4 hW
   repeat' (first|with_reducible (first|refine qAh ?_|refine qAt ?_|refine qAf ?_|refine qAy (by assumption) ?_|refine qAn (by assumption) ?_|refine qAd (fun hb => ?_) (fun hb => ?_)|refine qAe ?_ (fun hb => ?_)|refine qAl ?_)|((with_reducible show _=true); assumption))
   refine AKp.again _ hfr (by repeat (first | exact True.intro | refine ⟨⟨rfl, rfl⟩, ?_⟩)) (by repeat (first | exact True.intro | refine ⟨⟨rfl, rfl, rfl⟩, ?_⟩)) (hJ3 (p - 1) _ _ (by omega) ⟨j + 1, W, _, _, by omega, inc_i hF hjv (by omega), hwv, by rw [sum_take hl, ← Nat.add_assoc, ← hL, hW]; rfl, all_take_succ hl hal3 (by rw [hlb]; exact hal4), rfl, rfl⟩)
 have hlt5 : q < l.length := by rw [hF, f_ltI, f_lenD, hwl, hqv] at hb5; have := of_decide_eq_true hb5; omega
 obtain ⟨w, hw⟩ : ∃ w, l[q]? = some w := ⟨_, List.getElem?_eq_getElem hlt5⟩
 have hdw : wd[q]? = some (.s (.str w)) := by rw [hwd]; exact strDs_get hw
 have hhw : F .hasD wd qv [.str] = true := t_hasD hF hdw hqv rfl
 rw [show F .strA wd qv 0 = w by exact t_strA hF hdw hqv rfl]
 refine AKt.need hhw fun _ => ?_
 refine AKt.node (fun hb6 => ?_) (fun hb6 => ?_)
 · have : ¬ w.length ≤ 1000 := by rw [hF, f_ltI, f_lenS] at hb6; have := of_decide_eq_true hb6; omega
   repeat' (first|with_reducible (first|refine qAh ?_|refine qAt ?_|refine qAf ?_|refine qAy (by assumption) ?_|refine qAn (by assumption) ?_|refine qAd (fun hb => ?_) (fun hb => ?_)|refine qAe ?_ (fun hb => ?_)|refine qAl ?_)|((with_reducible show _=true); assumption))
   refine AKp.doneE tabOK hfr (by rfl) ?_
   show _ = _
   simp only [tupAV]
   rw [bad3 (all_false (i := q) hw (decide_eq_false this))]
 have hw1 : w.length ≤ 1000 := by rw [hF, f_ltI, f_lenS] at hb6; have := of_decide_eq_false hb6; omega
 have hWb : W ≤ 648948200 := by
   have := sum_le (f := fun w : Wd => w.length + 1) (m := 1001) (fun x hx => by have := of_decide_eq_true hx; omega) hal4
   have h2 : (l.take q).length * 1001 ≤ 40 * 1001 := Nat.mul_le_mul_right _ (by simp; omega)
   omega
 have s1 : F .wrap .i64 (F .add (F .lenS w) 1) = ((w.length + 1 : Nat) : Int) := add_nn hF (m := w.length) (n := 1) (by rw [hF]; rfl) rfl (by omega)
 refine AKt.need hhw fun _ => ?_
 repeat' (first|with_reducible (first|refine qAh ?_|refine qAt ?_|refine qAf ?_|refine qAy (by assumption) ?_|refine qAn (by assumption) ?_|refine qAd (fun hb => ?_) (fun hb => ?_)|refine qAe ?_ (fun hb => ?_)|refine qAl ?_)|((with_reducible show _=true); assumption))
 rw [s1]
 refine AKp.again _ hfr (by repeat (first | exact True.intro | refine ⟨⟨rfl, rfl⟩, ?_⟩)) (by repeat (first | exact True.intro | refine ⟨⟨rfl, rfl, rfl⟩, ?_⟩)) (hJ4 (u - 1) _ _ (by omega) ⟨q + 1, W + (w.length + 1), _, _, by omega, inc_i hF hqv (by omega), add_nn hF hwv rfl (by omega), by rw [sum_take hw, hW]; omega, all_take_succ hw hal4 (decide_eq_true hw1), rfl, rfl⟩)
def isCf0 (ls ss : List Dat) : Bool := isLv ls && isSm ss
theorem SmallD_spec (a b c d : Int) (ls ss : List Dat) (hb : isCf0 ls ss = true) : ESpec Tryz.prog 5 [.d (.agg [.s (.int .i64 a), .s (.int .i64 b), .s (.int .i64 c), .s (.int .i64 d), .view 10 ls, .view 5 ss])] (fun x => x = .d (.s (.bool (smallF ⟨a, b, c, d, unLv ls, unSm ss⟩)))) := by
 simp only [isCf0, Bool.and_eq_true] at hb
 have h := Small_spec ⟨a, b, c, d, unLv ls, unSm ss⟩
 simp only [lv_un hb.1, sm_un hb.2] at h
 exact h
def φSmallC (p : List Dat → List Dat → Bool) (u : Int → Int → Int → Int → List Dat → List Dat → Bool) : List AV → Option (Bool × AV)
 | [.d (.agg [.s (.int .i64 a), .s (.int .i64 b), .s (.int .i64 c), .s (.int .i64 d), .view 10 ls, .view 5 ss])] => some (p ls ss, .d (.s (.bool (u a b c d ls ss))))
 | _ => none
theorem φSmallC_ok : SpOK Tryz.prog 5 (φSmallC (isCf0) (fun a b c d ls ss => smallF ⟨a, b, c, d, unLv ls, unSm ss⟩)) := by
 intro xs b x h hb
 unfold φSmallC at h
 split at h
 · simp only [Option.some.injEq, Prod.mk.injEq] at h
   obtain ⟨rfl, rfl⟩ := h
   exact SmallD_spec _ _ _ _ _ _ hb
 · cases h
end Go.Proofs.YtpmpajodihpkaaaGreatDoor
