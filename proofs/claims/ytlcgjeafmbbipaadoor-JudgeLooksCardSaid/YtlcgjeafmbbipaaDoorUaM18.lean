/- The library of this claim and its walks, part 18, joined out of smaller texts. No statement stands in it. -/
import Derived.Test.YtlcgjeafmbbipaaDoorUaM17
import Derived.Laws.Cover3
/- A slice held against nil. A library of this claim's own: no statement stands in it. -/
namespace Go.Ua
open Go Go.Proofs
set_option linter.unusedVariables false
set_option linter.unusedSectionVars false
section
variable {P : Program} [Globs P] {τ : Tab} {cx : Cx P} {Q : Exit → Act → World → Prop}

/-- Whether a slice is nil, that is told as a list: what is nil is empty. -/
theorem AKp.isNil (hτ : TabOK P τ) {n : Nat} (hn : cx.nt = n) {all r : List Oper} {k : List KI} {S : St} {o : Oper} {t e : TypeId} {xo yo : Operand} {u : TypeId} {kk : Nat} {es : List Dat}
    (ho : o.op = .binOp .eql t xo yo u) (hx : evl S xo = .d (.view kk es)) (hy : evl S yo = .d (.s .sl0)) (hk : kindOf τ t = .slice e) (hg : guardB all S o = some true) (hd : dstB n o = true)
    (h : ∀ b : Bool, (b = true → es = []) → AKp P cx Q (.ops all r :: k, S.put o.dst (.d (.s (.bool b))))) : AKp P cx Q (.ops all (o :: r) :: k, S) := by
  intro ι a w H
  show wpList P all.toArray (den P cx Q k) (o :: r) a w
  unfold wpList
  rw [guardB_spec H hg, if_pos rfl]
  refine .inl ?_
  have hvx := H.evl xo
  have hvy := H.evl yo
  rw [hx] at hvx
  rw [hy] at hvy
  have ey := rep_s hvy
  obtain ⟨d, i, y, _, _, hu, _, _, hk'⟩ := kindOf_run hτ hk (fun _ _ => trivial) (by simp)
  simp only [TK.ok] at hk'
  subst hk'
  have hd' := dstB_lt (by rw [← hn] at hd; exact hd)
  obtain ⟨ad, l, c, hv, he⟩ : ∃ (ad : Option Addr) (l c : Nat), a.eval xo = .slice ad l c ∧ (ad.isNone = true → es = []) := by
    generalize a.eval xo = v at hvx
    cases rep_d hvx with
    | nil k => exact ⟨none, 0, 0, rfl, fun _ => rfl⟩
    | view k es ad cap f => exact ⟨some ad, _, cap, rfl, fun h => by cases h⟩
  have hrun : (execOp a.eval o).run P w = .ok (.value (.bool ad.isNone)) w := by
    have heq := run_equal_slice_nil (P := P) w t e ad l c hu
    simp only [execOp, ho, hv, ey, Sc.val]
    simp only [Sem.run_bind]
    rw [eqGuard_plain (P := P) (w := w) (op := .eql) (t := t) (xo := xo) (yo := yo) (v := .slice ad l c) (u := .slice none 0 0) (.inl ⟨by simp, by simp⟩)]
    simp [Go.binOp, heq]
  unfold Oper.wp
  rw [hrun]
  have := h ad.isNone he ι (a.put o.dst (.bool ad.isNone)) w (H.put hd' (.d _ _ (.s (.bool _) trivial)))
  exact this
/-- The end of a function that gives blocks: new name i is the name ns[i] of its own. -/
theorem AKp.doneG {fn : Func} {Qr : AV → List (Nat × Blk) → Nat → Prop} (hτ : TabOK P τ) {S : St} (ns : List Nat) {l : List AV} {x : AV} {h' : List (Nat × Blk)} (h0 : cx.w0.fr = 0) (hres : resAV τ S fn.results.toList = some l)
    (hx : tupAV l = x.ren (nthN ns)) (hlt : x.lt ns.length = true) (hh : leH (nthN ns) ns.length S.h h') (hd : nodupB ns = true) (hQ : Qr x h' ns.length) {k : List KI} : AKp P cx (fin P fn cx Qr) (.code .ret :: k, S) :=
  AK.ret fun ι a w H => (fin_of (cx := cx) hτ hres (nthN ns) hx hlt (fun n hn => by omega) (leH_get (t := S.h) hh)
    (fun n m h1 h2 e => by
      obtain ⟨B, hB⟩ := Option.isSome_iff_exists.1 h1
      obtain ⟨C, hC⟩ := Option.isSome_iff_exists.1 h2
      exact nthN_inj hd n m (leH_get (t := S.h) hh n B hB).1 (leH_get (t := S.h) hh m C hC).1 e) hQ ι a w H).1
/-- One operation, by what it comes to. -/
theorem AKp.stepR {F : Fam} (hF : F = Fam.real) (hτ : TabOK P τ) {n : Nat} (hn : cx.nt = n) {all r : List Oper} {k : List KI} {S S' : St} {o : Oper} (hg : guardB all S o = some true)
    (hs : stepOp (Ar.of F) τ n S o = some S') (next : AKp P cx Q (.ops all r :: k, S')) : AKp P cx Q (.ops all (o :: r) :: k, S) := by
  subst hF
  subst hn
  intro ι a w H
  show wpList P all.toArray (den P cx Q k) (o :: r) a w
  unfold wpList
  rw [guardB_spec H hg, if_pos rfl]
  exact .inl (stepOp_wp hτ H hs fun ι' a' w' H' => next ι' a' w' H')
inductive AKo (P : Program) [Globs P] (cx : Cx P) (Q : Exit → Act → World → Prop) (p : List Oper × List Oper × List KI) : Option St → Prop where
  | some {S' : St} (h : AKp P cx Q (.ops p.1 p.2.1 :: p.2.2, S')) : AKo P cx Q p (some S')
theorem AKp.stepO {F : Fam} (hF : F = Fam.real) (hτ : TabOK P τ) {n : Nat} (hn : cx.nt = n) {all r : List Oper} {k : List KI} {S : St} {o : Oper} (hg : guardB all S o = some true)
    (hs : AKo P cx Q (all, r, k) (stepOp (Ar.of F) τ n S o)) : AKp P cx Q (.ops all (o :: r) :: k, S) := by
  cases ho : stepOp (Ar.of F) τ n S o with
  | none => rw [ho] at hs; cases hs
  | some S' =>
    rw [ho] at hs
    cases hs with
    | some h => exact AKp.stepR hF hτ hn hg ho h
end
end Go.Ua

/- The book of requests: places, copies. -/
namespace Go.Proofs.YtlcgjeafmbbipaaDoor
open Go Go.Proofs Go.Ua Go.Extern
set_option linter.unusedVariables false
set_option linter.unusedSimpArgs false
set_option maxRecDepth 10000

structure En where
  id : Int
  ph : Int
  lv : List UInt8
def En.dat (e : En) : Dat := .agg [.s (.int .i64 e.id), .s (.int .i64 e.ph), .s (.str e.lv)]
def enDs (l : List En) : List Dat := l.map En.dat
theorem enDs_len (l : List En) : (enDs l).length = l.length := by simp [enDs]

/-- What a list of entries is. -/
def unE : Dat → En
  | .agg [.s (.int .i64 a), .s (.int .i64 b), .s (.str c)] => ⟨a, b, c⟩
  | _ => ⟨0, 0, []⟩
def isE : Dat → Bool
  | .agg [.s (.int .i64 _), .s (.int .i64 _), .s (.str _)] => true
  | _ => false
def unEn (es : List Dat) : List En := es.map unE
def isEn (es : List Dat) : Bool := es.all isE
theorem un_en (l : List En) : unEn (enDs l) = l := by
  unfold unEn enDs
  rw [List.map_map]
  conv => rhs; rw [← List.map_id l]
  exact List.map_congr_left fun e _ => rfl
theorem is_en (l : List En) : isEn (enDs l) = true := by
  unfold isEn enDs
  rw [List.all_map, List.all_eq_true]
  exact fun e _ => rfl
theorem e_un {d : Dat} (h : isE d = true) : (unE d).dat = d := by
  unfold isE at h
  split at h
  · rfl
  · cases h
theorem en_un {es : List Dat} (h : isEn es = true) : enDs (unEn es) = es := by
  unfold unEn enDs
  rw [List.map_map]
  conv => rhs; rw [← List.map_id es]
  exact List.map_congr_left fun d hd => e_un (List.all_eq_true.1 h d hd)

theorem findC_spec (a b : Int) (lv : List UInt8) (id : Int) : ESpec Tryd.prog 59 [.d (.agg [.s (.int .i64 a), .s (.int .i64 b), .s (.str lv)]), .d (.vref [.s (.int .i64 id)])] (fun x => x = .d (.s (.bool (decide (a = id))))) := by
  refine ESpec.enter Tryd.func59 (by kernel_rfl) rfl (Nat.le_of_ble_eq_true rfl) fun hok cx hnt hfr => ?_
  obtain ⟨F, hF⟩ := real_ex
  refine AK.runT hF tabOK hmix hnt hfr false [] trivial ?_
  conv => arg 4; cbv
  repeat' (first | with_reducible refine AKt.have ?_ | with_reducible refine AKt.tt ?_ | with_reducible refine AKt.ff ?_ | with_reducible refine AKt.yes (by assumption) ?_ | with_reducible refine AKt.no (by assumption) ?_ | with_reducible refine AKt.node (fun hb => ?_) (fun hb => ?_) | with_reducible refine AKt.need ?_ (fun hb => ?_) | with_reducible refine AKt.leaf ?_ | ((with_reducible show _ = true); assumption))
  refine AKp.doneE tabOK hfr (by rfl) ?_
  show _ = _
  simp only [tupAV]
  refine avb (Bool.eq_iff_iff.2 ?_)
  simp only [hF, f_ltI, f_leI, f_eqI, f_eqS, f_eqB, f_not, f_andB, f_orB, f_lenS, f_lenD, f_hasS, f_atS, f_hasC, f_subS, f_hasCat, f_app, f_wrap, f_add, f_sub, f_mul, f_appD, f_fits, f_hasV, f_subV, decide_eq_true_eq, decide_eq_false_iff_not, beq_iff_eq, beq_eq_false_iff_ne, Bool.and_eq_true, Bool.and_eq_false_iff, Bool.not_eq_true, Bool.not_eq_false, Bool.not_eq_eq_eq_not, Bool.not_true, Bool.not_false] at *
def φFindC (u : Int → Int → Bool) : List AV → Option (Bool × AV)
  | [.d (.agg [.s (.int .i64 a), .s (.int .i64 b), .s (.str lv)]), .d (.vref [.s (.int .i64 id)])] => some (true, .d (.s (.bool (u a id))))
  | _ => none
theorem φFindC_ok : SpOK Tryd.prog 59 (φFindC (fun a id => decide (a = id))) := by
  intro xs b x h hb
  unfold φFindC at h
  split at h
  · simp only [Option.some.injEq, Prod.mk.injEq] at h
    obtain ⟨rfl, rfl⟩ := h
    exact findC_spec _ _ _ _
  · cases h
def findI (l : List En) (id : Int) : Int := match l.findIdx? (fun e => decide (e.id = id)) with
  | some i => i
  | none => -1
theorem findI_none {l : List En} {id : Int} (h : ∀ (i : Nat) (e : En), l[i]? = some e → e.id ≠ id) : findI l id = -1 := by
  unfold findI
  rw [List.findIdx?_eq_none_iff.2]
  intro e he
  obtain ⟨i, hi⟩ := List.getElem?_of_mem he
  exact decide_eq_false (h i e hi)
theorem findI_some {l : List En} {id : Int} {i : Nat} {e : En} (h1 : l[i]? = some e) (h2 : e.id = id) (h : ∀ (j : Nat) (e : En), j < i → l[j]? = some e → e.id ≠ id) : findI l id = i := by
  unfold findI
  have hlt := (List.getElem?_eq_some_iff.1 h1).1
  have : l.findIdx? (fun e => decide (e.id = id)) = some i := by
    rw [List.findIdx?_eq_some_iff_getElem]
    refine ⟨hlt, ?_, fun j hj => ?_⟩
    · have := (List.getElem?_eq_some_iff.1 h1).2
      simp [this, h2]
    · have := h j _ hj (List.getElem?_eq_getElem (by omega))
      simpa using this
  rw [this]
theorem indexF_spec (l : List En) (id : Int) : ESpec Tryd.prog 58 [.d (.view 3 (enDs l)), .fn (.func 59) [] [.d (.vref [.s (.int .i64 id)])]] (fun x => x = .d (.s (.int .i64 (findI l id)))) := by
  obtain ⟨uFindC, huFindC⟩ : ∃ u : Int → Int → Bool, u = fun a id => decide (a = id) := ⟨_, rfl⟩
  have hG : TblOK Tryd.prog [(59, .p (φFindC uFindC))] := ⟨(by rw [huFindC]; exact φFindC_ok), trivial⟩
  obtain ⟨es, hes⟩ : ∃ z, z = enDs l := ⟨_, rfl⟩
  rw [← hes]
  have hel : es.length = l.length := by rw [hes, enDs_len]
  obtain ⟨Z, hZ⟩ : ∃ z, z = findI l id := ⟨_, rfl⟩
  rw [← hZ]
  refine ESpec.enter Tryd.func58 (by kernel_rfl) rfl (Nat.le_of_ble_eq_true rfl) fun hok cx hnt hfr => ?_
  obtain ⟨F, hF⟩ := real_ex
  refine AK.runT hF tabOK hmix hnt hfr false _ hG ?_
  conv => arg 4; cbv
  have hlen : l.length ≤ 9223372036854775807 := by
    have := hok.1.1
    rw [hel] at this
    exact this
  repeat' (first | with_reducible refine AKt.have ?_ | with_reducible refine AKt.tt ?_ | with_reducible refine AKt.ff ?_ | with_reducible refine AKt.yes (by assumption) ?_ | with_reducible refine AKt.no (by assumption) ?_ | with_reducible refine AKt.node (fun hb => ?_) (fun hb => ?_) | with_reducible refine AKt.need ?_ (fun hb => ?_) | with_reducible refine AKt.leaf ?_ | ((with_reducible show _ = true); assumption))
  obtain ⟨nv, hnv⟩ : ∃ z, z = F .lenD es := ⟨_, rfl⟩
  rw [← hnv]
  have hnv' : nv = (l.length : Int) := by rw [hnv, hF, f_lenD, hel]
  refine AKp.enterLoop 9 ?_
  conv => arg 7; cbv
  refine AKl.invT hF tabOK hmix hnt hfr false _ hG (fun n vs hs => ∃ (i : Nat) (iv : Int), i + n = l.length ∧ iv = i ∧ (∀ (j : Nat) (e : En), j < i → l[j]? = some e → e.id ≠ id) ∧ vs = [(8, .d (.s (.int .i64 iv)))] ∧ hs = []) l.length ⟨0, _, by omega, rfl, fun j e h => by omega, rfl, rfl⟩ (by repeat (first | exact True.intro | refine ⟨⟨rfl, rfl⟩, ?_⟩)) (by repeat (first | exact True.intro | refine ⟨⟨rfl, rfl, rfl⟩, ?_⟩)) ?_
  rintro J n vs hs hJ ⟨i, iv, hi, hiv, hno, rfl, rfl⟩
  conv => arg 4; cbv
  refine AKt.node (fun hb => ?_) (fun hb => ?_)
  · have hlt : i < l.length := by rw [hnv'] at hb; simp only [hF, f_ltI, f_leI, f_eqI, f_eqS, f_eqB, f_not, f_andB, f_orB, f_lenS, f_lenD, f_hasS, f_atS, f_hasC, f_subS, f_hasCat, f_app, f_wrap, f_add, f_sub, f_mul, f_appD, f_fits, f_hasV, f_subV, decide_eq_true_eq, decide_eq_false_iff_not, beq_iff_eq, beq_eq_false_iff_ne, Bool.and_eq_true, Bool.and_eq_false_iff, Bool.not_eq_true, Bool.not_eq_false, Bool.not_eq_eq_eq_not, Bool.not_true, Bool.not_false] at hb; omega
    obtain ⟨e, he⟩ : ∃ e, l[i]? = some e := ⟨_, List.getElem?_eq_getElem hlt⟩
    have hd : es[i]? = some e.dat := by rw [hes, enDs, List.getElem?_map, he]; rfl
    have h1 : F .hasD es iv [.int .i64, .int .i64, .str] = true := t_hasD hF hd hiv rfl
    have e1 : F .intA es iv 0 = e.id := t_intA hF hd hiv rfl
    rw [e1]
    refine AKt.need h1 fun _ => AKt.have ?_
    refine AKt.node (fun hb2 => ?_) (fun hb2 => ?_)
    · have heq : e.id = id := by rw [huFindC] at hb2; exact of_decide_eq_true hb2
      repeat' (first | with_reducible refine AKt.have ?_ | with_reducible refine AKt.tt ?_ | with_reducible refine AKt.ff ?_ | with_reducible refine AKt.yes (by assumption) ?_ | with_reducible refine AKt.no (by assumption) ?_ | with_reducible refine AKt.node (fun hb => ?_) (fun hb => ?_) | with_reducible refine AKt.need ?_ (fun hb => ?_) | with_reducible refine AKt.leaf ?_ | ((with_reducible show _ = true); assumption))
      refine AKp.doneE tabOK hfr (by rfl) ?_
      show _ = _
      simp only [tupAV]
      rw [hZ, findI_some he heq hno, hiv]
    · have hne : e.id ≠ id := by rw [huFindC] at hb2; exact of_decide_eq_false hb2
      repeat' (first | with_reducible refine AKt.have ?_ | with_reducible refine AKt.tt ?_ | with_reducible refine AKt.ff ?_ | with_reducible refine AKt.yes (by assumption) ?_ | with_reducible refine AKt.no (by assumption) ?_ | with_reducible refine AKt.node (fun hb => ?_) (fun hb => ?_) | with_reducible refine AKt.need ?_ (fun hb => ?_) | with_reducible refine AKt.leaf ?_ | ((with_reducible show _ = true); assumption))
      refine AKp.again _ hfr (by repeat (first | exact True.intro | refine ⟨⟨rfl, rfl⟩, ?_⟩)) (by repeat (first | exact True.intro | refine ⟨⟨rfl, rfl, rfl⟩, ?_⟩)) (hJ (n - 1) _ _ (by omega) ⟨i + 1, _, by omega, inc_i hF hiv (by omega), ?_, rfl, rfl⟩)
      intro j e' hj he'
      by_cases hji : j = i
      · rw [hji, he] at he'; cases he'; exact hne
      · exact hno j e' (by omega) he'
  · have hge : ¬ i < l.length := by rw [hnv'] at hb; simp only [hF, f_ltI, f_leI, f_eqI, f_eqS, f_eqB, f_not, f_andB, f_orB, f_lenS, f_lenD, f_hasS, f_atS, f_hasC, f_subS, f_hasCat, f_app, f_wrap, f_add, f_sub, f_mul, f_appD, f_fits, f_hasV, f_subV, decide_eq_true_eq, decide_eq_false_iff_not, beq_iff_eq, beq_eq_false_iff_ne, Bool.and_eq_true, Bool.and_eq_false_iff, Bool.not_eq_true, Bool.not_eq_false, Bool.not_eq_eq_eq_not, Bool.not_true, Bool.not_false] at hb; omega
    repeat' (first | with_reducible refine AKt.have ?_ | with_reducible refine AKt.tt ?_ | with_reducible refine AKt.ff ?_ | with_reducible refine AKt.yes (by assumption) ?_ | with_reducible refine AKt.no (by assumption) ?_ | with_reducible refine AKt.node (fun hb => ?_) (fun hb => ?_) | with_reducible refine AKt.need ?_ (fun hb => ?_) | with_reducible refine AKt.leaf ?_ | ((with_reducible show _ = true); assumption))
    refine AKp.doneE tabOK hfr (by rfl) ?_
    show _ = _
    simp only [tupAV]
    rw [hZ, findI_none]
    intro j e' he'
    exact hno j e' (by have := (List.getElem?_eq_some_iff.1 he').1; omega) he'
def φIndexF (p : List Dat → Bool) (u : List Dat → Int → Int) : List AV → Option (Bool × AV)
  | [.d (.view 3 es), .fn (.func 59) [] [.d (.vref [.s (.int .i64 id)])]] => some (p es, .d (.s (.int .i64 (u es id))))
  | _ => none
theorem φIndexF_ok : SpOK Tryd.prog 58 (φIndexF (isEn) (fun es id => findI (unEn es) id)) := by
  intro xs b x h hb
  unfold φIndexF at h
  split at h
  · simp only [Option.some.injEq, Prod.mk.injEq] at h
    obtain ⟨rfl, rfl⟩ := h
    have h := en_un hb; rw [← h, un_en]; exact indexF_spec _ _
  · cases h
theorem find_spec (es : List Dat) (id : Int) (h : isEn es = true) : ESpec Tryd.prog 41 [.d (.view 3 es), .d (.s (.int .i64 id))] (fun x => x = .d (.s (.int .i64 (findI (unEn es) id)))) := by
  obtain ⟨uIndexF, huIndexF⟩ : ∃ u : List Dat → Bool, u = isEn := ⟨_, rfl⟩
  obtain ⟨uIndexF1, huIndexF1⟩ : ∃ u : List Dat → Int → Int, u = fun es id => findI (unEn es) id := ⟨_, rfl⟩
  have hG : TblOK Tryd.prog [(58, .p (φIndexF uIndexF uIndexF1))] := ⟨(by rw [huIndexF, huIndexF1]; exact φIndexF_ok), trivial⟩
  have q : uIndexF es = true := by subst huIndexF huIndexF1; exact h
  have e1 : uIndexF1 es id = findI (unEn es) id := by rw [huIndexF1]
  refine ESpec.enter Tryd.func41 (by kernel_rfl) rfl (Nat.le_of_ble_eq_true rfl) fun hok cx hnt hfr => ?_
  obtain ⟨F, hF⟩ := real_ex
  refine AK.runTs hF tabOK hmix hnt hfr [1] false _ hG ?_
  conv => arg 4; cbv
  repeat' (first | with_reducible refine AKt.have ?_ | with_reducible refine AKt.tt ?_ | with_reducible refine AKt.ff ?_ | with_reducible refine AKt.yes (by assumption) ?_ | with_reducible refine AKt.no (by assumption) ?_ | with_reducible refine AKt.node (fun hb => ?_) (fun hb => ?_) | with_reducible refine AKt.need ?_ (fun hb => ?_) | with_reducible refine AKt.leaf ?_ | ((with_reducible show _ = true); assumption))
  refine AKp.freezeBox 0 rfl rfl ?_
  conv => arg 4; arg 2; cbv
  refine AK.runT hF tabOK hmix hnt hfr false _ hG ?_
  conv => arg 4; cbv
  rw [e1]
  repeat' (first | with_reducible refine AKt.have ?_ | with_reducible refine AKt.tt ?_ | with_reducible refine AKt.ff ?_ | with_reducible refine AKt.yes (by assumption) ?_ | with_reducible refine AKt.no (by assumption) ?_ | with_reducible refine AKt.node (fun hb => ?_) (fun hb => ?_) | with_reducible refine AKt.need ?_ (fun hb => ?_) | with_reducible refine AKt.leaf ?_ | ((with_reducible show _ = true); assumption))
  exact AKp.doneE tabOK hfr (by rfl) (by rfl)
def φBFind (p : List Dat → Bool) (u : List Dat → Int → Int) : List AV → Option (Bool × AV)
  | [.d (.view 3 es), .d (.s (.int .i64 id))] => some (p es, .d (.s (.int .i64 (u es id))))
  | _ => none
theorem φBFind_ok : SpOK Tryd.prog 41 (φBFind (isEn) (fun es id => findI (unEn es) id)) := by
  intro xs b x h hb
  unfold φBFind at h
  split at h
  · simp only [Option.some.injEq, Prod.mk.injEq] at h
    obtain ⟨rfl, rfl⟩ := h
    exact find_spec _ _ hb
  · cases h
def les (es : List Dat) : Bool := decide (es.length ≤ 1000000000)
/-- A copy in memory of its own. -/
theorem clone_spec (es : List Dat) (h : les es = true) : ASpec Tryd.prog 42 [.d (.view 3 es)] [] 0 (fun y h1 fr1 => y = .row 0 3 ∧ h1 = [(0, .ds 58 3 es)] ∧ fr1 = 1) := by
  have h := of_decide_eq_true h
  refine ASpec.enterK Tryd.func42 (by kernel_rfl) rfl (Nat.le_of_ble_eq_true rfl) fun hok cx hnt hfr => ?_
  obtain ⟨F, hF⟩ := real_ex
  refine AK.runTn hF tabOK hmix hnt [] false [] trivial (Nat.le_of_eq hfr) ?_
  conv => arg 4; cbv
  repeat' (first | with_reducible refine AKt.have ?_ | with_reducible refine AKt.tt ?_ | with_reducible refine AKt.ff ?_ | with_reducible refine AKt.yes (by assumption) ?_ | with_reducible refine AKt.no (by assumption) ?_ | with_reducible refine AKt.node (fun hb => ?_) (fun hb => ?_) | with_reducible refine AKt.need ?_ (fun hb => ?_) | with_reducible refine AKt.leaf ?_ | ((with_reducible show _ = true); assumption))
  refine AKp.isNil tabOK hnt rfl rfl rfl rfl rfl rfl fun b hb => ?_
  cases b
  · refine AK.runTn hF tabOK hmix hnt [] false [] trivial (Nat.le_of_eq hfr) ?_
    conv => arg 4; cbv
    have hf : F .fits 32 (F .appD [] es) = true := by rw [hF]; exact decide_eq_true (by show ([] ++ es).length * 32 ≤ _; simp; omega)
    have ha : F .appD [] es = es := by rw [hF]; rfl
    rw [ha] at hf ⊢
    repeat' (first | with_reducible refine AKt.have ?_ | with_reducible refine AKt.tt ?_ | with_reducible refine AKt.ff ?_ | with_reducible refine AKt.yes (by assumption) ?_ | with_reducible refine AKt.no (by assumption) ?_ | with_reducible refine AKt.node (fun hb => ?_) (fun hb => ?_) | with_reducible refine AKt.need ?_ (fun hb => ?_) | with_reducible refine AKt.leaf ?_ | ((with_reducible show _ = true); assumption))
    refine AKp.doneG tabOK [1] hfr rfl ?_ ?_ ?_ rfl ⟨rfl, rfl, rfl⟩
    · rfl
    · rfl
    · exact (by repeat (first | exact True.intro | refine ⟨⟨Nat.le_of_ble_eq_true rfl, rfl, rfl⟩, ?_⟩))
  · obtain rfl := hb rfl
    refine AK.runTn hF tabOK hmix hnt [] false [] trivial (Nat.le_of_eq hfr) ?_
    conv => arg 4; cbv
    repeat' (first | with_reducible refine AKt.have ?_ | with_reducible refine AKt.tt ?_ | with_reducible refine AKt.ff ?_ | with_reducible refine AKt.yes (by assumption) ?_ | with_reducible refine AKt.no (by assumption) ?_ | with_reducible refine AKt.node (fun hb => ?_) (fun hb => ?_) | with_reducible refine AKt.need ?_ (fun hb => ?_) | with_reducible refine AKt.leaf ?_ | ((with_reducible show _ = true); assumption))
    refine AKp.asRow 2 58 3 (by decide) rfl ?_
    conv => arg 4; arg 2; cbv
    refine AKp.doneG tabOK [0] hfr rfl ?_ ?_ ?_ rfl ⟨rfl, rfl, rfl⟩
    · rfl
    · rfl
    · exact (by repeat (first | exact True.intro | refine ⟨⟨Nat.le_of_ble_eq_true rfl, rfl, rfl⟩, ?_⟩))
end Go.Proofs.YtlcgjeafmbbipaaDoor

/- The book of requests: found, begun, moved. -/
namespace Go.Proofs.YtlcgjeafmbbipaaDoor
open Go Go.Proofs Go.Ua Go.Extern
set_option linter.unusedVariables false
set_option linter.unusedSimpArgs false
set_option maxRecDepth 10000

def φClone (p : List Dat → Bool) : Nat → List AV → List (Nat × Blk) → Option (Bool × AV × List (Nat × Blk) × Nat)
  | 0, [.d (.view 3 es)], [] => some (p es, .row 0 3, [(0, .ds 58 3 es)], 1)
  | _, _, _ => none
theorem φClone_ok : MSpOK Tryd.prog 42 (φClone (les)) := by
  intro fr xs h b x h1 fr1 h hb
  unfold φClone at h
  split at h
  · simp only [Option.some.injEq, Prod.mk.injEq] at h
    obtain ⟨rfl, rfl, rfl, rfl⟩ := h
    exact clone_spec _ hb
  · cases h
def phB (p : Int) : Bool := decide (1 ≤ p) && decide (p ≤ 3)
theorem phase_spec (p : Int) : ESpec Tryd.prog 40 [.d (.s (.int .i64 p))] (fun x => x = .d (.s (.bool (phB p)))) := by
  refine ESpec.enter Tryd.func40 (by kernel_rfl) rfl (Nat.le_of_ble_eq_true rfl) fun _ cx hnt hfr => ?_
  obtain ⟨F, hF⟩ := real_ex
  refine AK.runT hF tabOK hmix hnt hfr false [] trivial ?_
  conv => arg 4; cbv
  repeat' (first | with_reducible refine AKt.have ?_ | with_reducible refine AKt.tt ?_ | with_reducible refine AKt.ff ?_ | with_reducible refine AKt.yes (by assumption) ?_ | with_reducible refine AKt.no (by assumption) ?_ | with_reducible refine AKt.node (fun hb => ?_) (fun hb => ?_) | with_reducible refine AKt.need ?_ (fun hb => ?_) | with_reducible refine AKt.leaf ?_ | ((with_reducible show _ = true); assumption))
  all_goals
    refine AKp.doneE tabOK hfr (by rfl) ?_
    show _ = _
    simp only [tupAV]
    simp only [hF, f_ltI, f_leI, f_eqI, f_eqS, f_eqB, f_not, f_andB, f_orB, f_lenS, f_lenD, f_hasS, f_atS, f_hasC, f_subS, f_hasCat, f_app, f_wrap, f_add, f_sub, f_mul, f_appD, f_fits, f_hasV, f_subV, decide_eq_true_eq, decide_eq_false_iff_not, beq_iff_eq, beq_eq_false_iff_ne, Bool.and_eq_true, Bool.and_eq_false_iff, Bool.not_eq_true, Bool.not_eq_false, Bool.not_eq_eq_eq_not, Bool.not_true, Bool.not_false] at *
    simp [phB, *]
def φPhase (u : Int → Bool) : List AV → Option (Bool × AV)
  | [.d (.s (.int .i64 p))] => some (true, .d (.s (.bool (u p))))
  | _ => none
theorem φPhase_ok : SpOK Tryd.prog 40 (φPhase (phB)) := by
  intro xs b x h hb
  unfold φPhase at h
  split at h
  · simp only [Option.some.injEq, Prod.mk.injEq] at h
    obtain ⟨rfl, rfl⟩ := h
    exact phase_spec _
  · cases h

def zeroEn : En := ⟨0, 0, []⟩
def hasN (l : List En) (id : Int) : Bool := decide (0 ≤ findI l id)
def getN (l : List En) (id : Int) : En := if hasN l id = true then l.getD (findI l id).toNat zeroEn else zeroEn
theorem find_cases (l : List En) (id : Int) : (findI l id = -1 ∧ hasN l id = false ∧ ∀ (i : Nat) (e : En), l[i]? = some e → e.id ≠ id) ∨ ∃ (i : Nat) (e : En), findI l id = i ∧ l[i]? = some e ∧ e.id = id ∧ hasN l id = true ∧ getN l id = e ∧ ∀ (j : Nat) (e : En), j < i → l[j]? = some e → e.id ≠ id := by
  unfold getN hasN findI
  cases h : l.findIdx? (fun e => decide (e.id = id)) with
  | none =>
    refine .inl ⟨rfl, rfl, fun i e he => ?_⟩
    have := List.findIdx?_eq_none_iff.1 h e (List.mem_of_getElem? he)
    exact of_decide_eq_false this
  | some i =>
    obtain ⟨h1, h2, h3⟩ := List.findIdx?_eq_some_iff_getElem.1 h
    refine .inr ⟨i, l[i], rfl, List.getElem?_eq_getElem h1, of_decide_eq_true h2, decide_eq_true (show (0 : Int) ≤ (i : Int) by omega), ?_, fun j e hj he => ?_⟩
    · rw [if_pos (decide_eq_true (show (0 : Int) ≤ (i : Int) by omega))]
      simp [h1]
    · have := h3 j hj
      obtain ⟨g1, g2⟩ := List.getElem?_eq_some_iff.1 he
      rw [g2] at this
      simpa using this

theorem bfind_spec (es : List Dat) (id : Int) (h : isEn es = true) : ESpec Tryd.prog 24 [.d (.view 3 es), .d (.s (.int .i64 id))] (fun x => x = .tup [.d (getN (unEn es) id).dat, .d (.s (.bool (hasN (unEn es) id)))]) := by
  obtain ⟨uBFind, huBFind⟩ : ∃ u : List Dat → Bool, u = isEn := ⟨_, rfl⟩
  obtain ⟨uBFind1, huBFind1⟩ : ∃ u : List Dat → Int → Int, u = fun es id => findI (unEn es) id := ⟨_, rfl⟩
  have hG : TblOK Tryd.prog [(41, .p (φBFind uBFind uBFind1))] := ⟨(by rw [huBFind, huBFind1]; exact φBFind_ok), trivial⟩
  obtain ⟨l, hl⟩ : ∃ l, l = unEn es := ⟨_, rfl⟩
  have hes : es = enDs l := by rw [hl, en_un h]
  have q : uBFind es = true := by subst huBFind huBFind1; exact h
  obtain ⟨at_, hat⟩ : ∃ z, z = uBFind1 es id := ⟨_, rfl⟩
  have e1 : at_ = findI l id := by rw [hat, huBFind1, hl]
  rw [← hl]
  obtain ⟨G, hG0⟩ : ∃ z, z = getN l id := ⟨_, rfl⟩
  obtain ⟨B, hB0⟩ : ∃ z, z = hasN l id := ⟨_, rfl⟩
  rw [← hG0, ← hB0]
  refine ESpec.enter Tryd.func24 (by kernel_rfl) rfl (Nat.le_of_ble_eq_true rfl) fun hok cx hnt hfr => ?_
  obtain ⟨F, hF⟩ := real_ex
  refine AK.runT hF tabOK hmix hnt hfr false _ hG ?_
  conv => arg 4; cbv
  rw [← hat]
  refine AKt.need q fun _ => ?_
  rcases find_cases l id with ⟨c1, c2, c3⟩ | ⟨i, e, c1, c2, c3, c4, c5, c6⟩
  · have hb : F .ltI at_ 0 = true := by rw [hF, f_ltI, e1, c1]; rfl
    have hg : G = zeroEn := by rw [hG0, getN, c2]; rfl
    repeat' (first | with_reducible refine AKt.have ?_ | with_reducible refine AKt.tt ?_ | with_reducible refine AKt.ff ?_ | with_reducible refine AKt.yes (by assumption) ?_ | with_reducible refine AKt.no (by assumption) ?_ | with_reducible refine AKt.node (fun hb => ?_) (fun hb => ?_) | with_reducible refine AKt.need ?_ (fun hb => ?_) | with_reducible refine AKt.leaf ?_ | ((with_reducible show _ = true); assumption))
    refine AKp.doneE tabOK hfr (by rfl) ?_
    show _ = _
    simp only [tupAV]
    rw [hg, hB0, c2]
    rfl
  · have hb : F .ltI at_ 0 = false := by rw [hF, f_ltI, e1, c1]; exact decide_eq_false (by omega)
    have hiv : at_ = (i : Int) := by rw [e1, c1]
    have hd : es[i]? = some e.dat := by rw [hes, enDs, List.getElem?_map, c2]; rfl
    have h1 : F .hasD es at_ [.int .i64, .int .i64, .str] = true := t_hasD hF hd hiv rfl
    have g0 : F .intA es at_ 0 = e.id := t_intA hF hd hiv rfl
    have g1 : F .intA es at_ 1 = e.ph := t_intA hF hd hiv rfl
    have g2 : F .strA es at_ 2 = e.lv := t_strA hF hd hiv rfl
    rw [g0, g1, g2]
    repeat' (first | with_reducible refine AKt.have ?_ | with_reducible refine AKt.tt ?_ | with_reducible refine AKt.ff ?_ | with_reducible refine AKt.yes (by assumption) ?_ | with_reducible refine AKt.no (by assumption) ?_ | with_reducible refine AKt.node (fun hb => ?_) (fun hb => ?_) | with_reducible refine AKt.need ?_ (fun hb => ?_) | with_reducible refine AKt.leaf ?_ | ((with_reducible show _ = true); assumption))
    refine AKp.doneE tabOK hfr (by rfl) ?_
    show _ = _
    simp only [tupAV]
    rw [hG0, c5, hB0, c4]
    rfl
def φBookFind (p : List Dat → Bool) (ui up : List Dat → Int → Int) (ul : List Dat → Int → List UInt8) (ub : List Dat → Int → Bool) : List AV → Option (Bool × AV)
  | [.d (.view 3 es), .d (.s (.int .i64 id))] => some (p es, .tup [.d (.agg [.s (.int .i64 (ui es id)), .s (.int .i64 (up es id)), .s (.str (ul es id))]), .d (.s (.bool (ub es id)))])
  | _ => none
theorem φBookFind_ok : SpOK Tryd.prog 24 (φBookFind (isEn) (fun es id => (getN (unEn es) id).id) (fun es id => (getN (unEn es) id).ph) (fun es id => (getN (unEn es) id).lv) (fun es id => hasN (unEn es) id)) := by
  intro xs b x h hb
  unfold φBookFind at h
  split at h
  · simp only [Option.some.injEq, Prod.mk.injEq] at h
    obtain ⟨rfl, rfl⟩ := h
    exact bfind_spec _ _ hb
  · cases h

def begE (l : List En) (x : En) : Int := if x.id < 0 ∨ 999999999 < x.id ∨ phB x.ph = false then 1 else if hasN l x.id = true then 5 else 0
def begV (l : List En) (x : En) : List En := if begE l x = 0 then l ++ [x] else []
def bkP (es : List Dat) : Bool := isEn es && les es
theorem begin_spec (es : List Dat) (id ph : Int) (lv : List UInt8) (h : bkP es = true) : ESpec Tryd.prog 23 [.d (.view 3 es), .d (.agg [.s (.int .i64 id), .s (.int .i64 ph), .s (.str lv)])] (fun x => x = .tup [.d (.view 3 (enDs (begV (unEn es) ⟨id, ph, lv⟩))), .d (.s (.int .i64 (begE (unEn es) ⟨id, ph, lv⟩)))]) := by
  obtain ⟨uBFind, huBFind⟩ : ∃ u : List Dat → Bool, u = isEn := ⟨_, rfl⟩
  obtain ⟨uBFind1, huBFind1⟩ : ∃ u : List Dat → Int → Int, u = fun es id => findI (unEn es) id := ⟨_, rfl⟩
  obtain ⟨uPhase, huPhase⟩ : ∃ u : Int → Bool, u = phB := ⟨_, rfl⟩
  obtain ⟨uClone, huClone⟩ : ∃ u : List Dat → Bool, u = les := ⟨_, rfl⟩
  have hG : TblOK Tryd.prog [(41, .p (φBFind uBFind uBFind1)), (40, .p (φPhase uPhase)), (42, .m (φClone uClone))] := ⟨(by rw [huBFind, huBFind1]; exact φBFind_ok), (by rw [huPhase]; exact φPhase_ok), (by rw [huClone]; exact φClone_ok), trivial⟩
  simp only [bkP, Bool.and_eq_true] at h
  obtain ⟨l, hl⟩ : ∃ l, l = unEn es := ⟨_, rfl⟩
  have hes : es = enDs l := by rw [hl, en_un h.1]
  have q : uBFind es = true := by subst huBFind huBFind1 huPhase huClone; exact h.1
  have qc : uClone es = true := by subst huBFind huBFind1 huPhase huClone; exact h.2
  obtain ⟨at_, hat⟩ : ∃ z, z = uBFind1 es id := ⟨_, rfl⟩
  have e1 : at_ = findI l id := by rw [hat, huBFind1, hl]
  rw [← hl]
  obtain ⟨V, hV⟩ : ∃ z, z = begV l ⟨id, ph, lv⟩ := ⟨_, rfl⟩
  obtain ⟨E, hE⟩ : ∃ z, z = begE l ⟨id, ph, lv⟩ := ⟨_, rfl⟩
  rw [← hV, ← hE]
  refine ESpec.enter Tryd.func23 (by kernel_rfl) rfl (Nat.le_of_ble_eq_true rfl) fun hok cx hnt hfr => ?_
  obtain ⟨F, hF⟩ := real_ex
  refine AK.runT hF tabOK hmix hnt hfr false _ hG ?_
  conv => arg 4; cbv
  rw [← hat]
  have bad : ∀ e, begE l ⟨id, ph, lv⟩ = e → ¬ e = 0 → V = [] ∧ E = e := fun e h1 h2 => by rw [hV, hE, begV, h1, if_neg h2]; exact ⟨rfl, rfl⟩
  have lex : ∀ e : Int, LeX (.tup [.d (.s .sl0), .d (.s (.int .i64 e))]) (.tup [.d (.view 3 (enDs [])), .d (.s (.int .i64 e))]) := fun e => .tup (.cons (.d (.nil _)) (.cons (.refl _) .nil))
  have b1 : (id < 0 ∨ 999999999 < id ∨ phB ph = false) → V = [] ∧ E = 1 := fun h => bad 1 (by rw [begE, if_pos h]) (by decide)
  refine AKt.node (fun hb1 => ?_) (fun hb1 => ?_)
  · obtain ⟨g1, g2⟩ := b1 (by simp only [hF, f_ltI, f_leI, f_eqI, f_eqS, f_eqB, f_not, f_andB, f_orB, f_lenS, f_lenD, f_hasS, f_atS, f_hasC, f_subS, f_hasCat, f_app, f_wrap, f_add, f_sub, f_mul, f_appD, f_fits, f_hasV, f_subV, decide_eq_true_eq, decide_eq_false_iff_not, beq_iff_eq, beq_eq_false_iff_ne, Bool.and_eq_true, Bool.and_eq_false_iff, Bool.not_eq_true, Bool.not_eq_false, Bool.not_eq_eq_eq_not, Bool.not_true, Bool.not_false] at hb1; exact .inl hb1)
    repeat' (first | with_reducible refine AKt.have ?_ | with_reducible refine AKt.tt ?_ | with_reducible refine AKt.ff ?_ | with_reducible refine AKt.yes (by assumption) ?_ | with_reducible refine AKt.no (by assumption) ?_ | with_reducible refine AKt.node (fun hb => ?_) (fun hb => ?_) | with_reducible refine AKt.need ?_ (fun hb => ?_) | with_reducible refine AKt.leaf ?_ | ((with_reducible show _ = true); assumption))
    refine AKp.doneL tabOK hfr (by rfl) ?_
    rw [g1, g2]
    exact lex _
  refine AKt.node (fun hb2 => ?_) (fun hb2 => ?_)
  · obtain ⟨g1, g2⟩ := b1 (by simp only [hF, f_ltI, f_leI, f_eqI, f_eqS, f_eqB, f_not, f_andB, f_orB, f_lenS, f_lenD, f_hasS, f_atS, f_hasC, f_subS, f_hasCat, f_app, f_wrap, f_add, f_sub, f_mul, f_appD, f_fits, f_hasV, f_subV, decide_eq_true_eq, decide_eq_false_iff_not, beq_iff_eq, beq_eq_false_iff_ne, Bool.and_eq_true, Bool.and_eq_false_iff, Bool.not_eq_true, Bool.not_eq_false, Bool.not_eq_eq_eq_not, Bool.not_true, Bool.not_false] at hb2; exact .inr (.inl hb2))
    repeat' (first | with_reducible refine AKt.have ?_ | with_reducible refine AKt.tt ?_ | with_reducible refine AKt.ff ?_ | with_reducible refine AKt.yes (by assumption) ?_ | with_reducible refine AKt.no (by assumption) ?_ | with_reducible refine AKt.node (fun hb => ?_) (fun hb => ?_) | with_reducible refine AKt.need ?_ (fun hb => ?_) | with_reducible refine AKt.leaf ?_ | ((with_reducible show _ = true); assumption))
    refine AKp.doneL tabOK hfr (by rfl) ?_
    rw [g1, g2]
    exact lex _
  refine AKt.have ?_
  refine AKt.node (fun hb3 => ?_) (fun hb3 => ?_)
  · obtain ⟨g1, g2⟩ := b1 (by rw [huPhase] at hb3; simp only [hF, f_ltI, f_leI, f_eqI, f_eqS, f_eqB, f_not, f_andB, f_orB, f_lenS, f_lenD, f_hasS, f_atS, f_hasC, f_subS, f_hasCat, f_app, f_wrap, f_add, f_sub, f_mul, f_appD, f_fits, f_hasV, f_subV, decide_eq_true_eq, decide_eq_false_iff_not, beq_iff_eq, beq_eq_false_iff_ne, Bool.and_eq_true, Bool.and_eq_false_iff, Bool.not_eq_true, Bool.not_eq_false, Bool.not_eq_eq_eq_not, Bool.not_true, Bool.not_false] at hb3; exact .inr (.inr hb3))
    repeat' (first | with_reducible refine AKt.have ?_ | with_reducible refine AKt.tt ?_ | with_reducible refine AKt.ff ?_ | with_reducible refine AKt.yes (by assumption) ?_ | with_reducible refine AKt.no (by assumption) ?_ | with_reducible refine AKt.node (fun hb => ?_) (fun hb => ?_) | with_reducible refine AKt.need ?_ (fun hb => ?_) | with_reducible refine AKt.leaf ?_ | ((with_reducible show _ = true); assumption))
    refine AKp.doneL tabOK hfr (by rfl) ?_
    rw [g1, g2]
    exact lex _
  have hok2 : ¬ (id < 0 ∨ 999999999 < id ∨ phB ph = false) := by
    rw [huPhase] at hb3
    simp only [hF, f_ltI, f_leI, f_eqI, f_eqS, f_eqB, f_not, f_andB, f_orB, f_lenS, f_lenD, f_hasS, f_atS, f_hasC, f_subS, f_hasCat, f_app, f_wrap, f_add, f_sub, f_mul, f_appD, f_fits, f_hasV, f_subV, decide_eq_true_eq, decide_eq_false_iff_not, beq_iff_eq, beq_eq_false_iff_ne, Bool.and_eq_true, Bool.and_eq_false_iff, Bool.not_eq_true, Bool.not_eq_false, Bool.not_eq_eq_eq_not, Bool.not_true, Bool.not_false] at hb1 hb2 hb3
    rintro (h | h | h)
    · exact hb1 h
    · exact hb2 h
    · rw [h] at hb3; cases hb3
  refine AKt.need q fun _ => ?_
  refine AKt.node (fun hb4 => ?_) (fun hb4 => ?_)
  · have hn : hasN l id = true := by rw [e1] at hb4; simp only [hF, f_ltI, f_leI, f_eqI, f_eqS, f_eqB, f_not, f_andB, f_orB, f_lenS, f_lenD, f_hasS, f_atS, f_hasC, f_subS, f_hasCat, f_app, f_wrap, f_add, f_sub, f_mul, f_appD, f_fits, f_hasV, f_subV, decide_eq_true_eq, decide_eq_false_iff_not, beq_iff_eq, beq_eq_false_iff_ne, Bool.and_eq_true, Bool.and_eq_false_iff, Bool.not_eq_true, Bool.not_eq_false, Bool.not_eq_eq_eq_not, Bool.not_true, Bool.not_false] at hb4; exact decide_eq_true hb4
    obtain ⟨g1, g2⟩ := bad 5 (by rw [begE, if_neg hok2, if_pos hn]) (by decide)
    repeat' (first | with_reducible refine AKt.have ?_ | with_reducible refine AKt.tt ?_ | with_reducible refine AKt.ff ?_ | with_reducible refine AKt.yes (by assumption) ?_ | with_reducible refine AKt.no (by assumption) ?_ | with_reducible refine AKt.node (fun hb => ?_) (fun hb => ?_) | with_reducible refine AKt.need ?_ (fun hb => ?_) | with_reducible refine AKt.leaf ?_ | ((with_reducible show _ = true); assumption))
    refine AKp.doneL tabOK hfr (by rfl) ?_
    rw [g1, g2]
    exact lex _
  · have hn : hasN l id = false := by rw [e1] at hb4; simp only [hF, f_ltI, f_leI, f_eqI, f_eqS, f_eqB, f_not, f_andB, f_orB, f_lenS, f_lenD, f_hasS, f_atS, f_hasC, f_subS, f_hasCat, f_app, f_wrap, f_add, f_sub, f_mul, f_appD, f_fits, f_hasV, f_subV, decide_eq_true_eq, decide_eq_false_iff_not, beq_iff_eq, beq_eq_false_iff_ne, Bool.and_eq_true, Bool.and_eq_false_iff, Bool.not_eq_true, Bool.not_eq_false, Bool.not_eq_eq_eq_not, Bool.not_true, Bool.not_false] at hb4; exact decide_eq_false hb4
    have he : begE l ⟨id, ph, lv⟩ = 0 := by rw [begE, if_neg hok2, if_neg (by rw [hn]; decide)]
    have hle : es.length ≤ 1000000000 := of_decide_eq_true h.2
    have ha : F .appD es [.agg [.s (.int .i64 id), .s (.int .i64 ph), .s (.str lv)]] = enDs V := by
      rw [hF, f_appD, hV, begV, if_pos he, hes]
      simp [enDs, En.dat]
    have hf : F .fits 32 (enDs V) = true := by rw [← ha, hF]; exact decide_eq_true (by show (es ++ [_]).length * 32 ≤ _; simp; omega)
    obtain ⟨vd, hvd⟩ : ∃ z, z = enDs V := ⟨_, rfl⟩
    rw [← hvd] at ha hf ⊢
    rw [ha]
    repeat' (first | with_reducible refine AKt.have ?_ | with_reducible refine AKt.tt ?_ | with_reducible refine AKt.ff ?_ | with_reducible refine AKt.yes (by assumption) ?_ | with_reducible refine AKt.no (by assumption) ?_ | with_reducible refine AKt.node (fun hb => ?_) (fun hb => ?_) | with_reducible refine AKt.need ?_ (fun hb => ?_) | with_reducible refine AKt.leaf ?_ | ((with_reducible show _ = true); assumption))
    refine AKp.freeze 2 rfl ?_
    conv => arg 4; arg 2; cbv
    refine AKp.doneE tabOK hfr (by rfl) ?_
    show _ = _
    simp only [tupAV]
    rw [hE, he]
def φBegin (p : List Dat → Bool) (u : List Dat → Int → Int → List UInt8 → List Dat) (e : List Dat → Int → Int → List UInt8 → Int) : List AV → Option (Bool × AV)
  | [.d (.view 3 es), .d (.agg [.s (.int .i64 id), .s (.int .i64 ph), .s (.str lv)])] => some (p es, .tup [.d (.view 3 (u es id ph lv)), .d (.s (.int .i64 (e es id ph lv)))])
  | _ => none
theorem φBegin_ok : SpOK Tryd.prog 23 (φBegin (bkP) (fun es id ph lv => enDs (begV (unEn es) ⟨id, ph, lv⟩)) (fun es id ph lv => begE (unEn es) ⟨id, ph, lv⟩)) := by
  intro xs b x h hb
  unfold φBegin at h
  split at h
  · simp only [Option.some.injEq, Prod.mk.injEq] at h
    obtain ⟨rfl, rfl⟩ := h
    exact begin_spec _ _ _ _ hb
  · cases h

def movE (l : List En) (id tp : Int) : Int := if hasN l id = false then 6 else if phB tp = false ∨ tp ≤ (getN l id).ph then 9 else 0
def movV (l : List En) (id tp : Int) : List En := if movE l id tp = 0 then l.set (findI l id).toNat ⟨(getN l id).id, tp, (getN l id).lv⟩ else []
theorem move_spec (es : List Dat) (id tp : Int) (h : bkP es = true) : ESpec Tryd.prog 25 [.d (.view 3 es), .d (.s (.int .i64 id)), .d (.s (.int .i64 tp))] (fun x => x = .tup [.d (.view 3 (enDs (movV (unEn es) id tp))), .d (.s (.int .i64 (movE (unEn es) id tp)))]) := by
  obtain ⟨uBFind, huBFind⟩ : ∃ u : List Dat → Bool, u = isEn := ⟨_, rfl⟩
  obtain ⟨uBFind1, huBFind1⟩ : ∃ u : List Dat → Int → Int, u = fun es id => findI (unEn es) id := ⟨_, rfl⟩
  obtain ⟨uPhase, huPhase⟩ : ∃ u : Int → Bool, u = phB := ⟨_, rfl⟩
  obtain ⟨uClone, huClone⟩ : ∃ u : List Dat → Bool, u = les := ⟨_, rfl⟩
  have hG : TblOK Tryd.prog [(41, .p (φBFind uBFind uBFind1)), (40, .p (φPhase uPhase)), (42, .m (φClone uClone))] := ⟨(by rw [huBFind, huBFind1]; exact φBFind_ok), (by rw [huPhase]; exact φPhase_ok), (by rw [huClone]; exact φClone_ok), trivial⟩
  simp only [bkP, Bool.and_eq_true] at h
  obtain ⟨l, hl⟩ : ∃ l, l = unEn es := ⟨_, rfl⟩
  have hes : es = enDs l := by rw [hl, en_un h.1]
  have q : uBFind es = true := by subst huBFind huBFind1 huPhase huClone; exact h.1
  have qc : uClone es = true := by subst huBFind huBFind1 huPhase huClone; exact h.2
  obtain ⟨at_, hat⟩ : ∃ z, z = uBFind1 es id := ⟨_, rfl⟩
  have e1 : at_ = findI l id := by rw [hat, huBFind1, hl]
  rw [← hl]
  obtain ⟨V, hV⟩ : ∃ z, z = movV l id tp := ⟨_, rfl⟩
  obtain ⟨E, hE⟩ : ∃ z, z = movE l id tp := ⟨_, rfl⟩
  rw [← hV, ← hE]
  refine ESpec.enter Tryd.func25 (by kernel_rfl) rfl (Nat.le_of_ble_eq_true rfl) fun hok cx hnt hfr => ?_
  obtain ⟨F, hF⟩ := real_ex
  refine AK.runT hF tabOK hmix hnt hfr false _ hG ?_
  conv => arg 4; cbv
  rw [← hat]
  have bad : ∀ e, movE l id tp = e → ¬ e = 0 → V = [] ∧ E = e := fun e h1 h2 => by rw [hV, hE, movV, h1, if_neg h2]; exact ⟨rfl, rfl⟩
  have lex : ∀ e : Int, LeX (.tup [.d (.s .sl0), .d (.s (.int .i64 e))]) (.tup [.d (.view 3 (enDs [])), .d (.s (.int .i64 e))]) := fun e => .tup (.cons (.d (.nil _)) (.cons (.refl _) .nil))
  refine AKt.need q fun _ => ?_
  rcases find_cases l id with ⟨c1, c2, c3⟩ | ⟨i, e, c1, c2, c3, c4, c5, c6⟩
  · have hb : F .ltI at_ 0 = true := by rw [hF, f_ltI, e1, c1]; rfl
    obtain ⟨g1, g2⟩ := bad 6 (by rw [movE, if_pos c2]) (by decide)
    repeat' (first | with_reducible refine AKt.have ?_ | with_reducible refine AKt.tt ?_ | with_reducible refine AKt.ff ?_ | with_reducible refine AKt.yes (by assumption) ?_ | with_reducible refine AKt.no (by assumption) ?_ | with_reducible refine AKt.node (fun hb => ?_) (fun hb => ?_) | with_reducible refine AKt.need ?_ (fun hb => ?_) | with_reducible refine AKt.leaf ?_ | ((with_reducible show _ = true); assumption))
    refine AKp.doneL tabOK hfr (by rfl) ?_
    rw [g1, g2]
    exact lex _
  · have hb : F .ltI at_ 0 = false := by rw [hF, f_ltI, e1, c1]; exact decide_eq_false (by omega)
    have hiv : at_ = (i : Int) := by rw [e1, c1]
    have hn : ¬ hasN l id = false := by rw [c4]; decide
    have hlt := (List.getElem?_eq_some_iff.1 c2).1
    have hd : es[i]? = some e.dat := by rw [hes, enDs, List.getElem?_map, c2]; rfl
    have h1 : F .hasD es at_ [.int .i64, .int .i64, .str] = true := t_hasD hF hd hiv rfl
    have g1 : F .intA es at_ 1 = e.ph := t_intA hF hd hiv rfl
    rw [g1]
    refine AKt.no hb ?_
    refine AKt.have ?_
    refine AKt.node (fun hb2 => ?_) (fun hb2 => ?_)
    · obtain ⟨g2, g3⟩ := bad 9 (by rw [huPhase] at hb2; simp only [hF, f_ltI, f_leI, f_eqI, f_eqS, f_eqB, f_not, f_andB, f_orB, f_lenS, f_lenD, f_hasS, f_atS, f_hasC, f_subS, f_hasCat, f_app, f_wrap, f_add, f_sub, f_mul, f_appD, f_fits, f_hasV, f_subV, decide_eq_true_eq, decide_eq_false_iff_not, beq_iff_eq, beq_eq_false_iff_ne, Bool.and_eq_true, Bool.and_eq_false_iff, Bool.not_eq_true, Bool.not_eq_false, Bool.not_eq_eq_eq_not, Bool.not_true, Bool.not_false] at hb2; rw [movE, if_neg hn, if_pos (.inl hb2)]) (by decide)
      repeat' (first | with_reducible refine AKt.have ?_ | with_reducible refine AKt.tt ?_ | with_reducible refine AKt.ff ?_ | with_reducible refine AKt.yes (by assumption) ?_ | with_reducible refine AKt.no (by assumption) ?_ | with_reducible refine AKt.node (fun hb => ?_) (fun hb => ?_) | with_reducible refine AKt.need ?_ (fun hb => ?_) | with_reducible refine AKt.leaf ?_ | ((with_reducible show _ = true); assumption))
      refine AKp.doneL tabOK hfr (by rfl) ?_
      rw [g2, g3]
      exact lex _
    refine AKt.need h1 fun _ => ?_
    refine AKt.node (fun hb3 => ?_) (fun hb3 => ?_)
    · obtain ⟨g2, g3⟩ := bad 9 (by simp only [hF, f_ltI, f_leI, f_eqI, f_eqS, f_eqB, f_not, f_andB, f_orB, f_lenS, f_lenD, f_hasS, f_atS, f_hasC, f_subS, f_hasCat, f_app, f_wrap, f_add, f_sub, f_mul, f_appD, f_fits, f_hasV, f_subV, decide_eq_true_eq, decide_eq_false_iff_not, beq_iff_eq, beq_eq_false_iff_ne, Bool.and_eq_true, Bool.and_eq_false_iff, Bool.not_eq_true, Bool.not_eq_false, Bool.not_eq_eq_eq_not, Bool.not_true, Bool.not_false] at hb3; rw [movE, if_neg hn, if_pos (.inr (by rw [c5]; exact hb3))]) (by decide)
      repeat' (first | with_reducible refine AKt.have ?_ | with_reducible refine AKt.tt ?_ | with_reducible refine AKt.ff ?_ | with_reducible refine AKt.yes (by assumption) ?_ | with_reducible refine AKt.no (by assumption) ?_ | with_reducible refine AKt.node (fun hb => ?_) (fun hb => ?_) | with_reducible refine AKt.need ?_ (fun hb => ?_) | with_reducible refine AKt.leaf ?_ | ((with_reducible show _ = true); assumption))
      refine AKp.doneL tabOK hfr (by rfl) ?_
      rw [g2, g3]
      exact lex _
    have he : movE l id tp = 0 := by
      rw [movE, if_neg hn, if_neg]
      rw [huPhase] at hb2
      simp only [hF, f_ltI, f_leI, f_eqI, f_eqS, f_eqB, f_not, f_andB, f_orB, f_lenS, f_lenD, f_hasS, f_atS, f_hasC, f_subS, f_hasCat, f_app, f_wrap, f_add, f_sub, f_mul, f_appD, f_fits, f_hasV, f_subV, decide_eq_true_eq, decide_eq_false_iff_not, beq_iff_eq, beq_eq_false_iff_ne, Bool.and_eq_true, Bool.and_eq_false_iff, Bool.not_eq_true, Bool.not_eq_false, Bool.not_eq_eq_eq_not, Bool.not_true, Bool.not_false] at hb2 hb3
      rintro (h | h)
      · rw [h] at hb2; cases hb2
      · rw [c5] at h; exact hb3 h
    have hvd : enDs V = es.set i (.agg [.s (.int .i64 e.id), .s (.int .i64 tp), .s (.str e.lv)]) := by
      rw [hV, movV, if_pos he, c1, c5, hes, Int.toNat_natCast, enDs, enDs, List.map_set]
      rfl
    obtain ⟨vd, hvd0⟩ : ∃ z, z = enDs V := ⟨_, rfl⟩
    rw [← hvd0] at hvd ⊢
    repeat' (first | with_reducible refine AKt.have ?_ | with_reducible refine AKt.tt ?_ | with_reducible refine AKt.ff ?_ | with_reducible refine AKt.yes (by assumption) ?_ | with_reducible refine AKt.no (by assumption) ?_ | with_reducible refine AKt.node (fun hb => ?_) (fun hb => ?_) | with_reducible refine AKt.need ?_ (fun hb => ?_) | with_reducible refine AKt.leaf ?_ | ((with_reducible show _ = true); assumption))
    have hel : i < es.length := (List.getElem?_eq_some_iff.1 hd).1
    have hin : F .inL es at_ = some i := by
      rw [hF, hiv]
      show (if 0 ≤ (i : Int) ∧ (i : Int) < (es.length : Int) then some (i : Int).toNat else none) = some i
      rw [if_pos (by omega), Int.toNat_natCast]
    have hnd : F .nthD es i = some (.agg [.s (.int .i64 e.id), .s (.int .i64 e.ph), .s (.str e.lv)]) := by rw [hF]; exact hd
    have hsd : F .setD es i (.agg [.s (.int .i64 e.id), .s (.int .i64 tp), .s (.str e.lv)]) = vd := by rw [hF, hvd]; rfl
    refine AKp.stepO hF tabOK hnt rfl ?_
    conv => arg 5; cbv
    rw [hin]
    conv => arg 5; cbv
    refine .some ?_
    refine AK.runT hF tabOK hmix hnt hfr false _ hG ?_
    conv => arg 4; cbv
    rw [hnd]
    conv => arg 4; cbv
    rw [hsd]
    repeat' (first | with_reducible refine AKt.have ?_ | with_reducible refine AKt.tt ?_ | with_reducible refine AKt.ff ?_ | with_reducible refine AKt.yes (by assumption) ?_ | with_reducible refine AKt.no (by assumption) ?_ | with_reducible refine AKt.node (fun hb => ?_) (fun hb => ?_) | with_reducible refine AKt.need ?_ (fun hb => ?_) | with_reducible refine AKt.leaf ?_ | ((with_reducible show _ = true); assumption))
    refine AKp.freeze 0 rfl ?_
    conv => arg 4; arg 2; cbv
    refine AKp.doneE tabOK hfr (by rfl) ?_
    show _ = _
    simp only [tupAV]
    rw [hE, he]
def φMove (p : List Dat → Bool) (u : List Dat → Int → Int → List Dat) (e : List Dat → Int → Int → Int) : List AV → Option (Bool × AV)
  | [.d (.view 3 es), .d (.s (.int .i64 id)), .d (.s (.int .i64 tp))] => some (p es, .tup [.d (.view 3 (u es id tp)), .d (.s (.int .i64 (e es id tp)))])
  | _ => none
theorem φMove_ok : SpOK Tryd.prog 25 (φMove (bkP) (fun es id tp => enDs (movV (unEn es) id tp)) (fun es id tp => movE (unEn es) id tp)) := by
  intro xs b x h hb
  unfold φMove at h
  split at h
  · simp only [Option.some.injEq, Prod.mk.injEq] at h
    obtain ⟨rfl, rfl⟩ := h
    exact move_spec _ _ _ hb
  · cases h
end Go.Proofs.YtlcgjeafmbbipaaDoor

/- What is told, as a line. -/
namespace Go.Proofs.YtlcgjeafmbbipaaDoor
open Go Go.Proofs Go.Ua Go.Extern
set_option linter.unusedVariables false
set_option linter.unusedSimpArgs false
set_option maxRecDepth 10000

def verbF (k : Int) : List UInt8 := if k = 1 then [115, 116, 97, 114, 116, 101, 100] else if k = 2 then [114, 101, 102, 117, 115, 101, 100] else if k = 3 then [108, 97, 116, 101] else if k = 4 then [103, 111, 110, 101]
  else if k = 5 then [101, 110, 100, 101, 100] else if k = 6 then [119, 114, 111, 110, 103] else if k = 7 then [108, 111, 97, 100, 101, 100] else []
theorem verb_spec (k : Int) : ESpec Tryd.prog 32 [.d (.s (.int .i64 k))] (fun x => x = .d (.s (.str (verbF k)))) := by
  refine ESpec.enter Tryd.func32 (by kernel_rfl) rfl (Nat.le_of_ble_eq_true rfl) fun _ cx hnt hfr => ?_
  obtain ⟨F, hF⟩ := real_ex
  refine AK.runT hF tabOK hmix hnt hfr false [] trivial ?_
  conv => arg 4; cbv
  repeat' (first | with_reducible refine AKt.have ?_ | with_reducible refine AKt.tt ?_ | with_reducible refine AKt.ff ?_ | with_reducible refine AKt.yes (by assumption) ?_ | with_reducible refine AKt.no (by assumption) ?_ | with_reducible refine AKt.node (fun hb => ?_) (fun hb => ?_) | with_reducible refine AKt.need ?_ (fun hb => ?_) | with_reducible refine AKt.leaf ?_ | ((with_reducible show _ = true); assumption))
  all_goals
    refine AKp.doneE tabOK hfr (by rfl) ?_
    show _ = _
    simp only [tupAV]
    simp only [hF, f_ltI, f_leI, f_eqI, f_eqS, f_eqB, f_not, f_andB, f_orB, f_lenS, f_lenD, f_hasS, f_atS, f_hasC, f_subS, f_hasCat, f_app, f_wrap, f_add, f_sub, f_mul, f_appD, f_fits, f_hasV, f_subV, decide_eq_true_eq, decide_eq_false_iff_not, beq_iff_eq, beq_eq_false_iff_ne, Bool.and_eq_true, Bool.and_eq_false_iff, Bool.not_eq_true, Bool.not_eq_false, Bool.not_eq_eq_eq_not, Bool.not_true, Bool.not_false] at *
    simp [verbF, *]
def φVerb (u : Int → List UInt8) : List AV → Option (Bool × AV)
  | [.d (.s (.int .i64 n))] => some (true, .d (.s (.str (u n))))
  | _ => none
theorem φVerb_ok : SpOK Tryd.prog 32 (φVerb (verbF)) := by
  intro xs b x h hb
  unfold φVerb at h
  split at h
  · simp only [Option.some.injEq, Prod.mk.injEq] at h
    obtain ⟨rfl, rfl⟩ := h
    exact verb_spec _
  · cases h

def digI (n : Int) : List UInt8 := Lib.decDigits n.toNat
def hexI (n : Int) : List UInt8 := hexN 16 n.toNat
def lineW (a k i : Int) (lv : List UInt8) (s w d : Int) : List (List UInt8) :=
  if k = 6 then [digI a, verbF k, digI w] else if k = 7 then [digI a, verbF k, hexI d] else if k = 1 then [digI a, verbF k, digI i, lv, digI s] else if k = 2 then [digI a, verbF k, digI i, lv, digI w] else [digI a, verbF k, digI i, lv]
def lineF (a k i : Int) (lv : List UInt8) (s w d : Int) : List UInt8 := Lib.join (lineW a k i lv s w d) [32]
def short (lv : List UInt8) : Bool := decide (lv.length ≤ 10000000)
theorem digI_len {n : Int} (h : n ≤ 9223372036854775807) : (digI n).length ≤ 21 := decDigits_le _ (by omega)
theorem verbF_len (k : Int) : (verbF k).length ≤ 21 := by unfold verbF; repeat' split
                                                          all_goals decide
set_option maxRecDepth 10000 in
theorem line_spec (a k i : Int) (lv : List UInt8) (s w d : Int) (hlv : short lv = true) :
    ESpec Tryd.prog 22 [.d (.agg [.s (.int .i64 a), .s (.int .i64 k), .s (.int .i64 i), .s (.str lv), .s (.int .i64 s), .s (.int .i64 w), .s (.int .u64 d)])] (fun x => x = .d (.s (.str (lineF a k i lv s w d)))) := by
  obtain ⟨uDigits, huDigits⟩ : ∃ u : Int → List UInt8, u = fun n => Lib.decDigits n.toNat := ⟨_, rfl⟩
  obtain ⟨uVerb, huVerb⟩ : ∃ u : Int → List UInt8, u = verbF := ⟨_, rfl⟩
  obtain ⟨uHex, huHex⟩ : ∃ u : Int → List UInt8, u = fun n => hexN 16 n.toNat := ⟨_, rfl⟩
  obtain ⟨uSJoin, huSJoin⟩ : ∃ u : List Dat → List UInt8 → Bool, u = joinP := ⟨_, rfl⟩
  obtain ⟨uSJoin1, huSJoin1⟩ : ∃ u : List Dat → List UInt8 → List UInt8, u = fun l s => Lib.join (unStr l) s := ⟨_, rfl⟩
  have hG : TblOK Tryd.prog [(37, .p (φDigits uDigits)), (32, .p (φVerb uVerb)), (38, .p (φHex uHex)), (39, .p (φSJoin uSJoin uSJoin1))] := ⟨(by rw [huDigits]; exact φDigits_ok), (by rw [huVerb]; exact φVerb_ok), (by rw [huHex]; exact φHex_ok), (by rw [huSJoin, huSJoin1]; exact φSJoin_ok), trivial⟩
  obtain ⟨Z, hZ⟩ : ∃ z, z = lineF a k i lv s w d := ⟨_, rfl⟩
  rw [← hZ]
  refine ESpec.enter Tryd.func22 (by kernel_rfl) rfl (Nat.le_of_ble_eq_true rfl) fun hok cx hnt hfr => ?_
  obtain ⟨F, hF⟩ := real_ex
  refine AK.runT hF tabOK hmix hnt hfr false _ hG ?_
  conv => arg 4; cbv
  have o1 : a ≤ 9223372036854775807 := hok.1.1.2
  have o3 : i ≤ 9223372036854775807 := hok.1.2.2.1.2
  have o5 : s ≤ 9223372036854775807 := hok.1.2.2.2.2.1.2
  have o6 : w ≤ 9223372036854775807 := hok.1.2.2.2.2.2.1.2
  have ol : lv.length ≤ 10000000 := of_decide_eq_true hlv
  have d1 := digI_len o1
  have d3 := digI_len o3
  have d5 := digI_len o5
  have d6 := digI_len o6
  have dv := verbF_len k
  have dh : (hexI d).length ≤ 21 := by unfold hexI; rw [hexN_len]; decide
  have ea : uDigits a = digI a := by subst huDigits huVerb huHex huSJoin huSJoin1; rfl
  have ei : uDigits i = digI i := by subst huDigits huVerb huHex huSJoin huSJoin1; rfl
  have es : uDigits s = digI s := by subst huDigits huVerb huHex huSJoin huSJoin1; rfl
  have ew : uDigits w = digI w := by subst huDigits huVerb huHex huSJoin huSJoin1; rfl
  have ek : uVerb k = verbF k := by subst huDigits huVerb huHex huSJoin huSJoin1; rfl
  have eh : uHex d = hexI d := by subst huDigits huVerb huHex huSJoin huSJoin1; rfl
  have key : ∀ (ws : List (List UInt8)) (l : List Dat), l = strDs ws → lineW a k i lv s w d = ws → (∀ x, x ∈ ws → x.length ≤ 10000000) → ws.length ≤ 5 → F .fits 16 l = true ∧ uSJoin l [32] = true ∧ uSJoin1 l [32] = Z := by
    intro ws l hl h1 h2 h3
    refine ⟨t_fits hF (by rw [hl, strDs_length]; omega), ?_, ?_⟩
    · subst huDigits huVerb huHex huSJoin huSJoin1
      rw [hl]
      exact joinP_of (by omega) h2 (by decide)
    · subst huDigits huVerb huHex huSJoin huSJoin1
      show Lib.join (unStr l) [32] = _
      rw [hl, unStr_strDs, hZ, lineF, h1]
  obtain ⟨l1, hl1⟩ : ∃ l, l = F .appD [.s (.str (uDigits a)), .s (.str (uVerb k))] [.s (.str (uDigits w))] := ⟨_, rfl⟩
  obtain ⟨l2, hl2⟩ : ∃ l, l = F .appD [.s (.str (uDigits a)), .s (.str (uVerb k))] [.s (.str (uHex d))] := ⟨_, rfl⟩
  obtain ⟨l3, hl3⟩ : ∃ l, l = F .appD [.s (.str (uDigits a)), .s (.str (uVerb k))] [.s (.str (uDigits i)), .s (.str lv)] := ⟨_, rfl⟩
  rw [← hl1, ← hl2, ← hl3]
  obtain ⟨l4, hl4⟩ : ∃ l, l = F .appD l3 [.s (.str (uDigits s))] := ⟨_, rfl⟩
  obtain ⟨l5, hl5⟩ : ∃ l, l = F .appD l3 [.s (.str (uDigits w))] := ⟨_, rfl⟩
  rw [← hl4, ← hl5]
  have g1 : l1 = strDs [digI a, verbF k, digI w] := by rw [hl1, ea, ek, ew, hF]; rfl
  have g2 : l2 = strDs [digI a, verbF k, hexI d] := by rw [hl2, ea, ek, eh, hF]; rfl
  have g3 : l3 = strDs [digI a, verbF k, digI i, lv] := by rw [hl3, ea, ek, ei, hF]; rfl
  have g4 : l4 = strDs [digI a, verbF k, digI i, lv, digI s] := by rw [hl4, g3, es, hF]; rfl
  have g5 : l5 = strDs [digI a, verbF k, digI i, lv, digI w] := by rw [hl5, g3, ew, hF]; rfl
  clear hl1 hl2 hl3 hl4 hl5
  have mm : ∀ (l : List (List UInt8)), (∀ x, x ∈ l → x = digI a ∨ x = verbF k ∨ x = digI i ∨ x = lv ∨ x = digI s ∨ x = digI w ∨ x = hexI d) → ∀ x, x ∈ l → x.length ≤ 10000000 := by
    intro l h x hx
    rcases h x hx with rfl | rfl | rfl | rfl | rfl | rfl | rfl <;> omega
  have f3 : F .fits 16 l3 = true := t_fits hF (by rw [g3, strDs_length]; simp)
  refine AKt.have (AKt.have ?_)
  refine AKt.node (fun h6 => ?_) (fun h6 => ?_)
  · have e6 := eqI1 hF h6
    obtain ⟨k1, k2, k3⟩ := key _ l1 g1 (by rw [lineW, if_pos e6]) (mm _ (by simp)) (by simp)
    repeat' (first | with_reducible refine AKt.have ?_ | with_reducible refine AKt.tt ?_ | with_reducible refine AKt.ff ?_ | with_reducible refine AKt.yes (by assumption) ?_ | with_reducible refine AKt.no (by assumption) ?_ | with_reducible refine AKt.node (fun hb => ?_) (fun hb => ?_) | with_reducible refine AKt.need ?_ (fun hb => ?_) | with_reducible refine AKt.leaf ?_ | ((with_reducible show _ = true); assumption))
    refine AKp.freeze 3 rfl ?_
    conv => arg 4; arg 2; cbv
    refine AK.runT hF tabOK hmix hnt hfr false _ hG ?_
    conv => arg 4; cbv
    repeat' (first | with_reducible refine AKt.have ?_ | with_reducible refine AKt.tt ?_ | with_reducible refine AKt.ff ?_ | with_reducible refine AKt.yes (by assumption) ?_ | with_reducible refine AKt.no (by assumption) ?_ | with_reducible refine AKt.node (fun hb => ?_) (fun hb => ?_) | with_reducible refine AKt.need ?_ (fun hb => ?_) | with_reducible refine AKt.leaf ?_ | ((with_reducible show _ = true); assumption))
    refine AKp.doneE tabOK hfr (by rfl) ?_
    show _ = _
    simp only [tupAV]
    rw [k3]
  have e6 := eqI0 hF h6
  refine AKt.node (fun h7 => ?_) (fun h7 => ?_)
  · have e7 := eqI1 hF h7
    obtain ⟨k1, k2, k3⟩ := key _ l2 g2 (by rw [lineW, if_neg e6, if_pos e7]) (mm _ (by simp)) (by simp)
    repeat' (first | with_reducible refine AKt.have ?_ | with_reducible refine AKt.tt ?_ | with_reducible refine AKt.ff ?_ | with_reducible refine AKt.yes (by assumption) ?_ | with_reducible refine AKt.no (by assumption) ?_ | with_reducible refine AKt.node (fun hb => ?_) (fun hb => ?_) | with_reducible refine AKt.need ?_ (fun hb => ?_) | with_reducible refine AKt.leaf ?_ | ((with_reducible show _ = true); assumption))
    refine AKp.freeze 3 rfl ?_
    conv => arg 4; arg 2; cbv
    refine AK.runT hF tabOK hmix hnt hfr false _ hG ?_
    conv => arg 4; cbv
    repeat' (first | with_reducible refine AKt.have ?_ | with_reducible refine AKt.tt ?_ | with_reducible refine AKt.ff ?_ | with_reducible refine AKt.yes (by assumption) ?_ | with_reducible refine AKt.no (by assumption) ?_ | with_reducible refine AKt.node (fun hb => ?_) (fun hb => ?_) | with_reducible refine AKt.need ?_ (fun hb => ?_) | with_reducible refine AKt.leaf ?_ | ((with_reducible show _ = true); assumption))
    refine AKp.doneE tabOK hfr (by rfl) ?_
    show _ = _
    simp only [tupAV]
    rw [k3]
  have e7 := eqI0 hF h7
  refine AKt.have (AKt.need f3 fun _ => ?_)
  refine AKt.node (fun h1 => ?_) (fun h1 => ?_)
  · have e1 := eqI1 hF h1
    obtain ⟨k1, k2, k3⟩ := key _ l4 g4 (by rw [lineW, if_neg e6, if_neg e7, if_pos e1]) (mm _ (by simp)) (by simp)
    repeat' (first | with_reducible refine AKt.have ?_ | with_reducible refine AKt.tt ?_ | with_reducible refine AKt.ff ?_ | with_reducible refine AKt.yes (by assumption) ?_ | with_reducible refine AKt.no (by assumption) ?_ | with_reducible refine AKt.node (fun hb => ?_) (fun hb => ?_) | with_reducible refine AKt.need ?_ (fun hb => ?_) | with_reducible refine AKt.leaf ?_ | ((with_reducible show _ = true); assumption))
    refine AKp.freeze 4 rfl ?_
    conv => arg 4; arg 2; cbv
    refine AK.runT hF tabOK hmix hnt hfr false _ hG ?_
    conv => arg 4; cbv
    repeat' (first | with_reducible refine AKt.have ?_ | with_reducible refine AKt.tt ?_ | with_reducible refine AKt.ff ?_ | with_reducible refine AKt.yes (by assumption) ?_ | with_reducible refine AKt.no (by assumption) ?_ | with_reducible refine AKt.node (fun hb => ?_) (fun hb => ?_) | with_reducible refine AKt.need ?_ (fun hb => ?_) | with_reducible refine AKt.leaf ?_ | ((with_reducible show _ = true); assumption))
    refine AKp.doneE tabOK hfr (by rfl) ?_
    show _ = _
    simp only [tupAV]
    rw [k3]
  have e1 := eqI0 hF h1
  refine AKt.node (fun h2 => ?_) (fun h2 => ?_)
  · have e2 := eqI1 hF h2
    obtain ⟨k1, k2, k3⟩ := key _ l5 g5 (by rw [lineW, if_neg e6, if_neg e7, if_neg e1, if_pos e2]) (mm _ (by simp)) (by simp)
    repeat' (first | with_reducible refine AKt.have ?_ | with_reducible refine AKt.tt ?_ | with_reducible refine AKt.ff ?_ | with_reducible refine AKt.yes (by assumption) ?_ | with_reducible refine AKt.no (by assumption) ?_ | with_reducible refine AKt.node (fun hb => ?_) (fun hb => ?_) | with_reducible refine AKt.need ?_ (fun hb => ?_) | with_reducible refine AKt.leaf ?_ | ((with_reducible show _ = true); assumption))
    refine AKp.freeze 4 rfl ?_
    conv => arg 4; arg 2; cbv
    refine AK.runT hF tabOK hmix hnt hfr false _ hG ?_
    conv => arg 4; cbv
    repeat' (first | with_reducible refine AKt.have ?_ | with_reducible refine AKt.tt ?_ | with_reducible refine AKt.ff ?_ | with_reducible refine AKt.yes (by assumption) ?_ | with_reducible refine AKt.no (by assumption) ?_ | with_reducible refine AKt.node (fun hb => ?_) (fun hb => ?_) | with_reducible refine AKt.need ?_ (fun hb => ?_) | with_reducible refine AKt.leaf ?_ | ((with_reducible show _ = true); assumption))
    refine AKp.doneE tabOK hfr (by rfl) ?_
    show _ = _
    simp only [tupAV]
    rw [k3]
  have e2 := eqI0 hF h2
  obtain ⟨k1, k2, k3⟩ := key _ l3 g3 (by rw [lineW, if_neg e6, if_neg e7, if_neg e1, if_neg e2]) (mm _ (by simp)) (by simp)
  repeat' (first | with_reducible refine AKt.have ?_ | with_reducible refine AKt.tt ?_ | with_reducible refine AKt.ff ?_ | with_reducible refine AKt.yes (by assumption) ?_ | with_reducible refine AKt.no (by assumption) ?_ | with_reducible refine AKt.node (fun hb => ?_) (fun hb => ?_) | with_reducible refine AKt.need ?_ (fun hb => ?_) | with_reducible refine AKt.leaf ?_ | ((with_reducible show _ = true); assumption))
  refine AKp.freeze 2 rfl ?_
  conv => arg 4; arg 2; cbv
  refine AK.runT hF tabOK hmix hnt hfr false _ hG ?_
  conv => arg 4; cbv
  repeat' (first | with_reducible refine AKt.have ?_ | with_reducible refine AKt.tt ?_ | with_reducible refine AKt.ff ?_ | with_reducible refine AKt.yes (by assumption) ?_ | with_reducible refine AKt.no (by assumption) ?_ | with_reducible refine AKt.node (fun hb => ?_) (fun hb => ?_) | with_reducible refine AKt.need ?_ (fun hb => ?_) | with_reducible refine AKt.leaf ?_ | ((with_reducible show _ = true); assumption))
  refine AKp.doneE tabOK hfr (by rfl) ?_
  show _ = _
  simp only [tupAV]
  rw [k3]
def φLine (p : List UInt8 → Bool) (u : Int → Int → Int → List UInt8 → Int → Int → Int → List UInt8) : List AV → Option (Bool × AV)
  | [.d (.agg [.s (.int .i64 a), .s (.int .i64 k), .s (.int .i64 i), .s (.str lv), .s (.int .i64 s), .s (.int .i64 w), .s (.int .u64 d)])] => some (p lv, .d (.s (.str (u a k i lv s w d))))
  | _ => none
theorem φLine_ok : SpOK Tryd.prog 22 (φLine (short) (lineF)) := by
  intro xs b x h hb
  unfold φLine at h
  split at h
  · simp only [Option.some.injEq, Prod.mk.injEq] at h
    obtain ⟨rfl, rfl⟩ := h
    exact line_spec _ _ _ _ _ _ _ hb
  · cases h
end Go.Proofs.YtlcgjeafmbbipaaDoor

/- What the words of a line tell. -/
namespace Go.Proofs.YtlcgjeafmbbipaaDoor
open Go Go.Proofs Go.Ua Go.Extern
set_option linter.unusedVariables false
set_option linter.unusedSimpArgs false
set_option maxRecDepth 10000

/-- What is told. -/
structure Tl where
  a : Int
  k : Int
  i : Int
  lv : List UInt8
  s : Int
  w : Int
  d : Int
def Tl.dat (t : Tl) : Dat := .agg [.s (.int .i64 t.a), .s (.int .i64 t.k), .s (.int .i64 t.i), .s (.str t.lv), .s (.int .i64 t.s), .s (.int .i64 t.w), .s (.int .u64 t.d)]
def Tl.line (t : Tl) : List UInt8 := lineF t.a t.k t.i t.lv t.s t.w t.d
def kindS (s : List UInt8) : Int := if s = verbF 1 then 1 else if s = verbF 2 then 2 else if s = verbF 3 then 3 else if s = verbF 4 then 4 else if s = verbF 5 then 5 else if s = verbF 6 then 6 else if s = verbF 7 then 7 else 0
theorem kindS_iff (s : List UInt8) : ∀ k : Nat, 1 ≤ k → k ≤ 7 → (s = verbF k ↔ kindS s = k) := by
  intro k h1 h7
  have hk : k = 1 ∨ k = 2 ∨ k = 3 ∨ k = 4 ∨ k = 5 ∨ k = 6 ∨ k = 7 := by omega
  unfold kindS
  rcases hk with rfl | rfl | rfl | rfl | rfl | rfl | rfl
  all_goals
    constructor
    · intro h
      subst h
      decide
    · intro h
      revert h
      repeat' split
      all_goals first | (intro _; assumption) | (intro h; exact absurd h (by decide))
theorem kindS_le (s : List UInt8) : 0 ≤ kindS s ∧ kindS s ≤ 7 := by
  unfold kindS
  repeat' split
  all_goals decide
def parsedF (ws : List (List UInt8)) : Tl × Bool :=
  if ws.length < 3 then (Tl.mk 0 0 0 [] 0 0 0, false)
  else if numB (ws.getD 0 []) 0 999999999 = false ∨ kindS (ws.getD 1 []) = 0 then (Tl.mk (numV (ws.getD 0 []) 0 999999999) (kindS (ws.getD 1 [])) 0 [] 0 0 0, false)
  else if kindS (ws.getD 1 []) = 6 then (Tl.mk (numV (ws.getD 0 []) 0 999999999) 6 0 [] 0 (numV (ws.getD 2 []) 1 99) 0, numB (ws.getD 2 []) 1 99 && decide (ws.length = 3))
  else if kindS (ws.getD 1 []) = 7 then (Tl.mk (numV (ws.getD 0 []) 0 999999999) 7 0 [] 0 0 (unhexV (ws.getD 2 [])), unhexB (ws.getD 2 []) && decide (ws.length = 3))
  else if numB (ws.getD 2 []) 0 999999999 = false ∨ ws.length < 4 ∨ nameF (ws.getD 3 []) = false then (Tl.mk (numV (ws.getD 0 []) 0 999999999) (kindS (ws.getD 1 [])) (numV (ws.getD 2 []) 0 999999999) [] 0 0 0, false)
  else if kindS (ws.getD 1 []) = 1 ∧ ws.length = 5 then (Tl.mk (numV (ws.getD 0 []) 0 999999999) (kindS (ws.getD 1 [])) (numV (ws.getD 2 []) 0 999999999) (ws.getD 3 []) (numV (ws.getD 4 []) 1 16) 0 0, numB (ws.getD 4 []) 1 16)
  else if kindS (ws.getD 1 []) = 2 ∧ ws.length = 5 then (Tl.mk (numV (ws.getD 0 []) 0 999999999) (kindS (ws.getD 1 [])) (numV (ws.getD 2 []) 0 999999999) (ws.getD 3 []) 0 (numV (ws.getD 4 []) 1 99) 0, numB (ws.getD 4 []) 1 99)
  else (Tl.mk (numV (ws.getD 0 []) 0 999999999) (kindS (ws.getD 1 [])) (numV (ws.getD 2 []) 0 999999999) (ws.getD 3 []) 0 0 0, !(decide (kindS (ws.getD 1 []) = 1)) && (!(decide (kindS (ws.getD 1 []) = 2)) && decide (ws.length = 4)))

set_option maxRecDepth 10000 in
theorem parsed_spec (ws : List (List UInt8)) : ESpec Tryd.prog 20 [.d (.view 1 (strDs ws))] (fun x => x = .tup [.d (parsedF ws).1.dat, .d (.s (.bool (parsedF ws).2))]) := by
  obtain ⟨uNumber, huNumber⟩ : ∃ u : List UInt8 → Int → Int → Int, u = numV := ⟨_, rfl⟩
  obtain ⟨uNumber1, huNumber1⟩ : ∃ u : List UInt8 → Int → Int → Bool, u = numB := ⟨_, rfl⟩
  obtain ⟨uVerb, huVerb⟩ : ∃ u : Int → List UInt8, u = verbF := ⟨_, rfl⟩
  obtain ⟨uUnhex, huUnhex⟩ : ∃ u : List UInt8 → Int, u = unhexV := ⟨_, rfl⟩
  obtain ⟨uUnhex1, huUnhex1⟩ : ∃ u : List UInt8 → Bool, u = unhexB := ⟨_, rfl⟩
  obtain ⟨uName, huName⟩ : ∃ u : List UInt8 → Bool, u = nameF := ⟨_, rfl⟩
  have hG : TblOK Tryd.prog [(31, .p (φNumber uNumber uNumber1)), (32, .p (φVerb uVerb)), (33, .p (φUnhex uUnhex uUnhex1)), (34, .p (φName uName))] := ⟨(by rw [huNumber, huNumber1]; exact φNumber_ok), (by rw [huVerb]; exact φVerb_ok), (by rw [huUnhex, huUnhex1]; exact φUnhex_ok), (by rw [huName]; exact φName_ok), trivial⟩
  obtain ⟨es, hes⟩ : ∃ z, z = strDs ws := ⟨_, rfl⟩
  obtain ⟨w0, hw0⟩ : ∃ z, z = ws.getD 0 [] := ⟨_, rfl⟩
  obtain ⟨w1, hw1⟩ : ∃ z, z = ws.getD 1 [] := ⟨_, rfl⟩
  obtain ⟨w2, hw2⟩ : ∃ z, z = ws.getD 2 [] := ⟨_, rfl⟩
  obtain ⟨w3, hw3⟩ : ∃ z, z = ws.getD 3 [] := ⟨_, rfl⟩
  obtain ⟨w4, hw4⟩ : ∃ z, z = ws.getD 4 [] := ⟨_, rfl⟩
  obtain ⟨Z, hZ⟩ : ∃ z, z = parsedF ws := ⟨_, rfl⟩
  rw [← hes, ← hZ]
  have hel : es.length = ws.length := by rw [hes]; simp [strDs]
  unfold parsedF at hZ
  rw [← hw0, ← hw1, ← hw2, ← hw3, ← hw4] at hZ
  refine ESpec.enter Tryd.func20 (by kernel_rfl) rfl (Nat.le_of_ble_eq_true rfl) fun hok cx hnt hfr => ?_
  obtain ⟨F, hF⟩ := real_ex
  refine AK.runT hF tabOK hmix hnt hfr false _ hG ?_
  conv => arg 4; cbv
  have s0 : F .strA es 0 0 = w0 := by rw [hes, hw0]; exact t_strG hF ws 0
  have s1 : F .strA es 1 0 = w1 := by rw [hes, hw1]; exact t_strG hF ws 1
  have s2 : F .strA es 2 0 = w2 := by rw [hes, hw2]; exact t_strG hF ws 2
  have s3 : F .strA es 3 0 = w3 := by rw [hes, hw3]; exact t_strG hF ws 3
  have s4 : F .strA es 4 0 = w4 := by rw [hes, hw4]; exact t_strG hF ws 4
  have n0 : ∀ j : Nat, j < ws.length → F .hasD es (j : Int) [.str] = true := fun j hj => by rw [hes]; exact t_hasG hF hj
  rw [s0]
  refine AKt.node (fun hb => ?_) (fun hb => ?_)
  · have h3 : ws.length < 3 := by simp only [hF, f_ltI, f_leI, f_eqI, f_eqS, f_eqB, f_not, f_andB, f_orB, f_lenS, f_lenD, f_hasS, f_atS, f_hasC, f_subS, f_hasCat, f_app, f_wrap, f_add, f_sub, f_mul, f_appD, f_fits, f_hasV, f_subV, decide_eq_true_eq, decide_eq_false_iff_not, beq_iff_eq, beq_eq_false_iff_ne, Bool.and_eq_true, Bool.and_eq_false_iff, Bool.not_eq_true, Bool.not_eq_false, Bool.not_eq_eq_eq_not, Bool.not_true, Bool.not_false] at hb; omega
    rw [if_pos h3] at hZ
    repeat' (first | with_reducible refine AKt.have ?_ | with_reducible refine AKt.tt ?_ | with_reducible refine AKt.ff ?_ | with_reducible refine AKt.yes (by assumption) ?_ | with_reducible refine AKt.no (by assumption) ?_ | with_reducible refine AKt.node (fun hb => ?_) (fun hb => ?_) | with_reducible refine AKt.need ?_ (fun hb => ?_) | with_reducible refine AKt.leaf ?_ | ((with_reducible show _ = true); assumption))
    refine AKp.doneE tabOK hfr (by rfl) ?_
    show _ = _
    simp only [tupAV]
    rw [hZ]
    rfl
  have h3 : ¬ ws.length < 3 := by simp only [hF, f_ltI, f_leI, f_eqI, f_eqS, f_eqB, f_not, f_andB, f_orB, f_lenS, f_lenD, f_hasS, f_atS, f_hasC, f_subS, f_hasCat, f_app, f_wrap, f_add, f_sub, f_mul, f_appD, f_fits, f_hasV, f_subV, decide_eq_true_eq, decide_eq_false_iff_not, beq_iff_eq, beq_eq_false_iff_ne, Bool.and_eq_true, Bool.and_eq_false_iff, Bool.not_eq_true, Bool.not_eq_false, Bool.not_eq_eq_eq_not, Bool.not_true, Bool.not_false] at hb; omega
  rw [if_neg h3] at hZ
  have k0 : F .hasD es 0 [.str] = true := n0 0 (by omega)
  have k1 : F .hasD es 1 [.str] = true := n0 1 (by omega)
  have k2 : F .hasD es 2 [.str] = true := n0 2 (by omega)
  repeat' (first | with_reducible refine AKt.have ?_ | with_reducible refine AKt.tt ?_ | with_reducible refine AKt.ff ?_ | with_reducible refine AKt.yes (by assumption) ?_ | with_reducible refine AKt.no (by assumption) ?_ | with_reducible refine AKt.node (fun hb => ?_) (fun hb => ?_) | with_reducible refine AKt.need ?_ (fun hb => ?_) | with_reducible refine AKt.leaf ?_ | ((with_reducible show _ = true); assumption))
  obtain ⟨ok0, hok0⟩ : ∃ z, z = uNumber1 w0 0 999999999 := ⟨_, rfl⟩
  obtain ⟨at0, hat0⟩ : ∃ z, z = uNumber w0 0 999999999 := ⟨_, rfl⟩
  rw [← hok0, ← hat0]
  refine AKp.enterLoop 8 ?_
  conv => arg 7; cbv
  refine AKl.invT hF tabOK hmix hnt hfr false _ hG (fun n vs hs => ∃ (k : Nat) (kv kd : Int), k + n = 8 ∧ 1 ≤ k ∧ kv = k ∧ kd = (if kindS w1 < k then kindS w1 else 0) ∧ vs = [(7, .d (.s (.int .i64 kv)))] ∧ hs = [(1, .cs 37 [.d (.s (.int .i64 at0)), .d (.s (.int .i64 kd)), .d (.s (.int .i64 0)), .d (.s (.str [])), .d (.s (.int .i64 0)), .d (.s (.int .i64 0)), .d (.s (.int .u64 0))]), (0, .cs 37 [.d (.s (.int .i64 0)), .d (.s (.int .i64 0)), .d (.s (.int .i64 0)), .d (.s (.str [])), .d (.s (.int .i64 0)), .d (.s (.int .i64 0)), .d (.s (.int .u64 0))])]) 7 ⟨1, _, 0, by omega, by omega, rfl, by have := (kindS_le w1).1; split <;> omega, rfl, rfl⟩ (by repeat (first | exact True.intro | refine ⟨⟨rfl, rfl⟩, ?_⟩)) (by repeat (first | exact True.intro | refine ⟨⟨rfl, rfl, rfl⟩, ?_⟩)) ?_
  rintro J n vs hs hJ ⟨k, kv, kd, hk, hk1, hkv, hkd, rfl, rfl⟩
  have kl := kindS_le w1
  have hu : uVerb kv = verbF kv := by subst huNumber huNumber1 huVerb huUnhex huUnhex1 huName; rfl
  have hkk : ∀ h : k ≤ 7, (w1 = verbF kv ↔ kindS w1 = k) := fun h => by rw [hkv]; exact kindS_iff w1 k hk1 h
  obtain ⟨vb, hvb⟩ : ∃ z, z = verbF kv := ⟨_, rfl⟩
  rw [← hvb] at hu hkk
  conv => arg 4; cbv
  rw [s1, hu]
  refine AKt.node (fun hb1 => ?_) (fun hb1 => ?_)
  · have hle : k ≤ 7 := by simp only [hF, f_ltI, f_leI, f_eqI, f_eqS, f_eqB, f_not, f_andB, f_orB, f_lenS, f_lenD, f_hasS, f_atS, f_hasC, f_subS, f_hasCat, f_app, f_wrap, f_add, f_sub, f_mul, f_appD, f_fits, f_hasV, f_subV, decide_eq_true_eq, decide_eq_false_iff_not, beq_iff_eq, beq_eq_false_iff_ne, Bool.and_eq_true, Bool.and_eq_false_iff, Bool.not_eq_true, Bool.not_eq_false, Bool.not_eq_eq_eq_not, Bool.not_true, Bool.not_false] at hb1; omega
    refine AKt.need k1 fun _ => ?_
    refine AKt.have ?_
    refine AKt.node (fun hb2 => ?_) (fun hb2 => ?_)
    · have he := (hkk hle).1 (eqS1 hF hb2)
      repeat' (first | with_reducible refine AKt.have ?_ | with_reducible refine AKt.tt ?_ | with_reducible refine AKt.ff ?_ | with_reducible refine AKt.yes (by assumption) ?_ | with_reducible refine AKt.no (by assumption) ?_ | with_reducible refine AKt.node (fun hb => ?_) (fun hb => ?_) | with_reducible refine AKt.need ?_ (fun hb => ?_) | with_reducible refine AKt.leaf ?_ | ((with_reducible show _ = true); assumption))
      refine AKp.again _ hfr (by repeat (first | exact True.intro | refine ⟨⟨rfl, rfl⟩, ?_⟩)) (by repeat (first | exact True.intro | refine ⟨⟨rfl, rfl, rfl⟩, ?_⟩)) (hJ (n - 1) _ _ (by omega) ⟨k + 1, _, kv, by omega, by omega, inc_i hF hkv (by omega), by rw [if_pos (by omega)]; omega, rfl, rfl⟩)
    · have he : ¬ kindS w1 = k := fun h => eqS0 hF hb2 ((hkk hle).2 h)
      repeat' (first | with_reducible refine AKt.have ?_ | with_reducible refine AKt.tt ?_ | with_reducible refine AKt.ff ?_ | with_reducible refine AKt.yes (by assumption) ?_ | with_reducible refine AKt.no (by assumption) ?_ | with_reducible refine AKt.node (fun hb => ?_) (fun hb => ?_) | with_reducible refine AKt.need ?_ (fun hb => ?_) | with_reducible refine AKt.leaf ?_ | ((with_reducible show _ = true); assumption))
      refine AKp.again _ hfr (by repeat (first | exact True.intro | refine ⟨⟨rfl, rfl⟩, ?_⟩)) (by repeat (first | exact True.intro | refine ⟨⟨rfl, rfl, rfl⟩, ?_⟩)) (hJ (n - 1) _ _ (by omega) ⟨k + 1, _, kd, by omega, by omega, inc_i hF hkv (by omega), by rw [hkd]; split <;> split <;> omega, rfl, rfl⟩)
  · have hgt : ¬ k ≤ 7 := by simp only [hF, f_ltI, f_leI, f_eqI, f_eqS, f_eqB, f_not, f_andB, f_orB, f_lenS, f_lenD, f_hasS, f_atS, f_hasC, f_subS, f_hasCat, f_app, f_wrap, f_add, f_sub, f_mul, f_appD, f_fits, f_hasV, f_subV, decide_eq_true_eq, decide_eq_false_iff_not, beq_iff_eq, beq_eq_false_iff_ne, Bool.and_eq_true, Bool.and_eq_false_iff, Bool.not_eq_true, Bool.not_eq_false, Bool.not_eq_eq_eq_not, Bool.not_true, Bool.not_false] at hb1; omega
    have hkd2 : kd = kindS w1 := by rw [hkd, if_pos (by omega)]
    clear hkk hu hvb vb hkd hJ
    rw [← hkd2] at hZ kl
    rw [s2, s3, s4]
    rw [← hel] at hZ h3
    have n1 : ∀ j : Nat, j < es.length → F .hasD es (j : Int) [.str] = true := fun j hj => n0 j (by omega)
    clear n0
    clear hkd2 hel hes hw0 hw1 hw2 hw3 hw4 hok hk hk1 hkv hb1 hgt
    repeat' (first | with_reducible refine AKt.have ?_ | with_reducible refine AKt.tt ?_ | with_reducible refine AKt.ff ?_ | with_reducible refine AKt.yes (by assumption) ?_ | with_reducible refine AKt.no (by assumption) ?_ | with_reducible refine AKt.node (fun hb => ?_) (fun hb => ?_) | with_reducible refine AKt.need ?_ (fun hb => ?_) | with_reducible refine AKt.leaf ?_ | ((with_reducible show _ = true); assumption))
    all_goals first
      | (refine n1 3 ?_
         clear n1
         simp only [hF, f_ltI, f_leI, f_eqI, f_eqS, f_eqB, f_not, f_andB, f_orB, f_lenS, f_lenD, f_hasS, f_atS, f_hasC, f_subS, f_hasCat, f_app, f_wrap, f_add, f_sub, f_mul, f_appD, f_fits, f_hasV, f_subV, decide_eq_true_eq, decide_eq_false_iff_not, beq_iff_eq, beq_eq_false_iff_ne, Bool.and_eq_true, Bool.and_eq_false_iff, Bool.not_eq_true, Bool.not_eq_false, Bool.not_eq_eq_eq_not, Bool.not_true, Bool.not_false] at *
         omega)
      | (refine n1 4 ?_
         clear n1
         simp only [hF, f_ltI, f_leI, f_eqI, f_eqS, f_eqB, f_not, f_andB, f_orB, f_lenS, f_lenD, f_hasS, f_atS, f_hasC, f_subS, f_hasCat, f_app, f_wrap, f_add, f_sub, f_mul, f_appD, f_fits, f_hasV, f_subV, decide_eq_true_eq, decide_eq_false_iff_not, beq_iff_eq, beq_eq_false_iff_ne, Bool.and_eq_true, Bool.and_eq_false_iff, Bool.not_eq_true, Bool.not_eq_false, Bool.not_eq_eq_eq_not, Bool.not_true, Bool.not_false] at *
         omega)
      | (refine AKp.doneE tabOK hfr (by rfl) ?_
         show _ = _
         conv => lhs; cbv
         clear n1
         subst hok0 hat0
         subst huNumber huNumber1 huVerb huUnhex huUnhex1 huName
         clear hG s0 s1 s2 s3 s4 k0 k1 k2 h3
         simp only [hF, f_ltI, f_leI, f_eqI, f_eqS, f_eqB, f_not, f_andB, f_orB, f_lenS, f_lenD, f_hasS, f_atS, f_hasC, f_subS, f_hasCat, f_app, f_wrap, f_add, f_sub, f_mul, f_appD, f_fits, f_hasV, f_subV, decide_eq_true_eq, decide_eq_false_iff_not, beq_iff_eq, beq_eq_false_iff_ne, Bool.and_eq_true, Bool.and_eq_false_iff, Bool.not_eq_true, Bool.not_eq_false, Bool.not_eq_eq_eq_not, Bool.not_true, Bool.not_false] at *
         subst hZ
         first
           | (simp [Tl.dat, *]; done)
           | (simp [Tl.dat, *]; grind))
theorem parsedD_spec (es : List Dat) (h : isStrs es = true) : ESpec Tryd.prog 20 [.d (.view 1 es)] (fun x => x = .tup [.d (parsedF (unStr es)).1.dat, .d (.s (.bool (parsedF (unStr es)).2))]) := by
  have := parsed_spec (unStr es)
  rwa [strDs_unStr h] at this
def φParsed (p : List Dat → Bool) (ua uk ui : List Dat → Int) (ul : List Dat → List UInt8) (us uw ud : List Dat → Int) (ub : List Dat → Bool) : List AV → Option (Bool × AV)
  | [.d (.view 1 es)] => some (p es, .tup [.d (.agg [.s (.int .i64 (ua es)), .s (.int .i64 (uk es)), .s (.int .i64 (ui es)), .s (.str (ul es)), .s (.int .i64 (us es)), .s (.int .i64 (uw es)), .s (.int .u64 (ud es))]), .d (.s (.bool (ub es)))])
  | _ => none
theorem φParsed_ok : SpOK Tryd.prog 20 (φParsed (isStrs) (fun es => (parsedF (unStr es)).1.a) (fun es => (parsedF (unStr es)).1.k) (fun es => (parsedF (unStr es)).1.i) (fun es => (parsedF (unStr es)).1.lv) (fun es => (parsedF (unStr es)).1.s) (fun es => (parsedF (unStr es)).1.w) (fun es => (parsedF (unStr es)).1.d) (fun es => (parsedF (unStr es)).2)) := by
  intro xs b x h hb
  unfold φParsed at h
  split at h
  · simp only [Option.some.injEq, Prod.mk.injEq] at h
    obtain ⟨rfl, rfl⟩ := h
    exact parsedD_spec _ hb
  · cases h
end Go.Proofs.YtlcgjeafmbbipaaDoor

/- A line is read; what is told is written. -/
namespace Go.Proofs.YtlcgjeafmbbipaaDoor
open Go Go.Proofs Go.Ua Go.Extern
set_option linter.unusedVariables false
set_option linter.unusedSimpArgs false
set_option maxRecDepth 10000

def zeroT : Tl := ⟨0, 0, 0, [], 0, 0, 0⟩
def okR (s : List UInt8) : Bool := (parsedF (wordsF s)).2 && decide ((parsedF (wordsF s)).1.line = s)
def readT (s : List UInt8) : Tl := if okR s = true then (parsedF (wordsF s)).1 else zeroT
def readE (s : List UInt8) : Int := if okR s = true then 0 else 2
def le20 (s : List UInt8) : Bool := decide (s.length ≤ 7000000)

theorem words_le {s p : List UInt8} (h : p ∈ wordsF s) : p.length ≤ s.length := cutF_all (List.mem_filter.1 h).1
theorem getD_le {ws : List (List UInt8)} {n j : Nat} (h : ∀ p, p ∈ ws → p.length ≤ n) : (ws.getD j []).length ≤ n := by
  rw [List.getD_eq_getElem?_getD]
  cases hj : ws[j]? with
  | none => simp
  | some p => exact h p (List.mem_of_getElem? hj)
theorem parsed_lv {ws : List (List UInt8)} {n : Nat} (h : ∀ p, p ∈ ws → p.length ≤ n) : (parsedF ws).1.lv.length ≤ n := by
  have := getD_le (j := 3) h
  unfold parsedF
  repeat' split
  all_goals first | exact Nat.zero_le _ | exact this

set_option maxRecDepth 10000 in
theorem Read_spec (s : List UInt8) (hs : le20 s = true) : ESpec Tryd.prog 14 [.d (.s (.str s))] (fun x => x = .tup [.d (readT s).dat, .d (.s (.int .i64 (readE s)))]) := by
  obtain ⟨uWords, huWords⟩ : ∃ u : List UInt8 → Bool, u = le32 := ⟨_, rfl⟩
  obtain ⟨uWords1, huWords1⟩ : ∃ u : List UInt8 → List Dat, u = fun w => strDs (wordsF w) := ⟨_, rfl⟩
  obtain ⟨uParsed, huParsed⟩ : ∃ u : List Dat → Bool, u = isStrs := ⟨_, rfl⟩
  obtain ⟨uParsed1, huParsed1⟩ : ∃ u : List Dat → Int, u = fun es => (parsedF (unStr es)).1.a := ⟨_, rfl⟩
  obtain ⟨uParsed2, huParsed2⟩ : ∃ u : List Dat → Int, u = fun es => (parsedF (unStr es)).1.k := ⟨_, rfl⟩
  obtain ⟨uParsed3, huParsed3⟩ : ∃ u : List Dat → Int, u = fun es => (parsedF (unStr es)).1.i := ⟨_, rfl⟩
  obtain ⟨uParsed4, huParsed4⟩ : ∃ u : List Dat → List UInt8, u = fun es => (parsedF (unStr es)).1.lv := ⟨_, rfl⟩
  obtain ⟨uParsed5, huParsed5⟩ : ∃ u : List Dat → Int, u = fun es => (parsedF (unStr es)).1.s := ⟨_, rfl⟩
  obtain ⟨uParsed6, huParsed6⟩ : ∃ u : List Dat → Int, u = fun es => (parsedF (unStr es)).1.w := ⟨_, rfl⟩
  obtain ⟨uParsed7, huParsed7⟩ : ∃ u : List Dat → Int, u = fun es => (parsedF (unStr es)).1.d := ⟨_, rfl⟩
  obtain ⟨uParsed8, huParsed8⟩ : ∃ u : List Dat → Bool, u = fun es => (parsedF (unStr es)).2 := ⟨_, rfl⟩
  obtain ⟨uLine, huLine⟩ : ∃ u : List UInt8 → Bool, u = short := ⟨_, rfl⟩
  obtain ⟨uLine1, huLine1⟩ : ∃ u : Int → Int → Int → List UInt8 → Int → Int → Int → List UInt8, u = lineF := ⟨_, rfl⟩
  have hG : TblOK Tryd.prog [(21, .p (φWords uWords uWords1)), (20, .p (φParsed uParsed uParsed1 uParsed2 uParsed3 uParsed4 uParsed5 uParsed6 uParsed7 uParsed8)), (22, .p (φLine uLine uLine1))] := ⟨(by rw [huWords, huWords1]; exact φWords_ok), (by rw [huParsed, huParsed1, huParsed2, huParsed3, huParsed4, huParsed5, huParsed6, huParsed7, huParsed8]; exact φParsed_ok), (by rw [huLine, huLine1]; exact φLine_ok), trivial⟩
  have hs' : s.length ≤ 7000000 := of_decide_eq_true hs
  obtain ⟨P, hP⟩ : ∃ z, z = parsedF (wordsF s) := ⟨_, rfl⟩
  have hlv : P.1.lv.length ≤ 7000000 := by rw [hP]; exact parsed_lv fun p hp => Nat.le_trans (words_le hp) hs'
  have q0 : uWords s = true := by subst huWords huWords1 huParsed huParsed1 huParsed2 huParsed3 huParsed4 huParsed5 huParsed6 huParsed7 huParsed8 huLine huLine1; exact decide_eq_true (by omega)
  have q1 : uParsed (uWords1 s) = true := by subst huWords huWords1 huParsed huParsed1 huParsed2 huParsed3 huParsed4 huParsed5 huParsed6 huParsed7 huParsed8 huLine huLine1; exact isStrs_strDs _
  have qq : ∀ es, es = uWords1 s → unStr es = wordsF s := fun es h => by rw [h]; subst huWords1; exact unStr_strDs _
  obtain ⟨es, hes⟩ : ∃ z, z = uWords1 s := ⟨_, rfl⟩
  have qe := qq es hes
  rw [← hes] at q1
  have e1 : uParsed1 es = P.1.a := by rw [huParsed1, hP, ← qe]
  have e2 : uParsed2 es = P.1.k := by rw [huParsed2, hP, ← qe]
  have e3 : uParsed3 es = P.1.i := by rw [huParsed3, hP, ← qe]
  have e4 : uParsed4 es = P.1.lv := by rw [huParsed4, hP, ← qe]
  have e5 : uParsed5 es = P.1.s := by rw [huParsed5, hP, ← qe]
  have e6 : uParsed6 es = P.1.w := by rw [huParsed6, hP, ← qe]
  have e7 : uParsed7 es = P.1.d := by rw [huParsed7, hP, ← qe]
  have e8 : uParsed8 es = P.2 := by rw [huParsed8, hP, ← qe]
  have q2 : uLine (uParsed4 es) = true := by rw [e4, huLine]; exact decide_eq_true (by omega)
  have q3 : uLine1 (uParsed1 es) (uParsed2 es) (uParsed3 es) (uParsed4 es) (uParsed5 es) (uParsed6 es) (uParsed7 es) = P.1.line := by rw [e1, e2, e3, e4, e5, e6, e7, huLine1]; rfl
  obtain ⟨ln, hln⟩ : ∃ z, z = P.1.line := ⟨_, rfl⟩
  rw [← hln] at q3
  obtain ⟨pb, hpb⟩ : ∃ z, z = P.2 := ⟨_, rfl⟩
  rw [← hpb] at e8
  have hok : okR s = (pb && decide (ln = s)) := by rw [okR, ← hP, hpb, hln]
  unfold readT readE
  rw [hok, ← hP]
  clear hok
  refine ESpec.enter Tryd.func14 (by kernel_rfl) rfl (Nat.le_of_ble_eq_true rfl) fun hok cx hnt hfr => ?_
  obtain ⟨F, hF⟩ := real_ex
  refine AK.runT hF tabOK hmix hnt hfr false _ hG ?_
  conv => arg 4; cbv
  rw [← hes, e8, q3]
  repeat' (first | with_reducible refine AKt.have ?_ | with_reducible refine AKt.tt ?_ | with_reducible refine AKt.ff ?_ | with_reducible refine AKt.yes (by assumption) ?_ | with_reducible refine AKt.no (by assumption) ?_ | with_reducible refine AKt.node (fun hb => ?_) (fun hb => ?_) | with_reducible refine AKt.need ?_ (fun hb => ?_) | with_reducible refine AKt.leaf ?_ | ((with_reducible show _ = true); assumption))
  all_goals
    refine AKp.doneE tabOK hfr (by rfl) ?_
    show _ = _
    conv => lhs; cbv
    try simp only [e1, e2, e3, e4, e5, e6, e7]
    clear qe e1 e2 e3 e4 e5 e6 e7 e8 qq hes hpb hln
    simp only [hF, f_ltI, f_leI, f_eqI, f_eqS, f_eqB, f_not, f_andB, f_orB, f_lenS, f_lenD, f_hasS, f_atS, f_hasC, f_subS, f_hasCat, f_app, f_wrap, f_add, f_sub, f_mul, f_appD, f_fits, f_hasV, f_subV, decide_eq_true_eq, decide_eq_false_iff_not, beq_iff_eq, beq_eq_false_iff_ne, Bool.and_eq_true, Bool.and_eq_false_iff, Bool.not_eq_true, Bool.not_eq_false, Bool.not_eq_eq_eq_not, Bool.not_true, Bool.not_false] at *
    simp [Tl.dat, zeroT, *]
def φRead (p : List UInt8 → Bool) (ua uk ui : List UInt8 → Int) (ul : List UInt8 → List UInt8) (us uw ud ue : List UInt8 → Int) : List AV → Option (Bool × AV)
  | [.d (.s (.str s))] => some (p s, .tup [.d (.agg [.s (.int .i64 (ua s)), .s (.int .i64 (uk s)), .s (.int .i64 (ui s)), .s (.str (ul s)), .s (.int .i64 (us s)), .s (.int .i64 (uw s)), .s (.int .u64 (ud s))]), .d (.s (.int .i64 (ue s)))])
  | _ => none
theorem φRead_ok : SpOK Tryd.prog 14 (φRead (le20) (fun s => (readT s).a) (fun s => (readT s).k) (fun s => (readT s).i) (fun s => (readT s).lv) (fun s => (readT s).s) (fun s => (readT s).w) (fun s => (readT s).d) (readE)) := by
  intro xs b x h hb
  unfold φRead at h
  split at h
  · simp only [Option.some.injEq, Prod.mk.injEq] at h
    obtain ⟨rfl, rfl⟩ := h
    exact Read_spec _ hb
  · cases h
end Go.Proofs.YtlcgjeafmbbipaaDoor

/- What is told is written. -/
namespace Go.Proofs.YtlcgjeafmbbipaaDoor
open Go Go.Proofs Go.Ua Go.Extern
set_option linter.unusedVariables false
set_option linter.unusedSimpArgs false
set_option maxRecDepth 10000

theorem line_len {a k i : Int} {lv : List UInt8} {s w d : Int} (h1 : a ≤ 9223372036854775807) (h3 : i ≤ 9223372036854775807) (h5 : s ≤ 9223372036854775807) (h6 : w ≤ 9223372036854775807) {n : Nat} (hn : 21 ≤ n) (hlv : lv.length ≤ n) :
    (lineF a k i lv s w d).length ≤ (n + 1) * 5 := by
  have d1 := digI_len h1
  have d3 := digI_len h3
  have d5 := digI_len h5
  have d6 := digI_len h6
  have dv := verbF_len k
  have dh : (hexI d).length ≤ 21 := by unfold hexI; rw [hexN_len]; decide
  have mm : ∀ (l : List (List UInt8)), (∀ x, x ∈ l → x = digI a ∨ x = verbF k ∨ x = digI i ∨ x = lv ∨ x = digI s ∨ x = digI w ∨ x = hexI d) → ∀ x, x ∈ l → x.length ≤ n := by
    intro l h x hx
    rcases h x hx with rfl | rfl | rfl | rfl | rfl | rfl | rfl <;> omega
  have key : ∀ l : List (List UInt8), l.length ≤ 5 → (∀ x, x ∈ l → x = digI a ∨ x = verbF k ∨ x = digI i ∨ x = lv ∨ x = digI s ∨ x = digI w ∨ x = hexI d) → (Lib.join l [32]).length ≤ (n + 1) * 5 := fun l hl h =>
    Nat.le_trans (join32_len (mm l h)) (Nat.mul_le_mul_left _ hl)
  unfold lineF lineW
  repeat' split
  all_goals exact key _ (by simp) (by simp)

/-- It is told as it is read. -/
def okW (t : Tl) : Bool := decide (readE t.line = 0) && (decide ((readT t.line).a = t.a) && (decide ((readT t.line).k = t.k) && (decide ((readT t.line).i = t.i) && (decide ((readT t.line).lv = t.lv) && (decide ((readT t.line).s = t.s) && (decide ((readT t.line).w = t.w) && decide ((readT t.line).d = t.d)))))))
def writeS (t : Tl) : List UInt8 := if okW t = true then t.line else []
def writeE (t : Tl) : Int := if okW t = true then 0 else 2
def lv3 (lv : List UInt8) : Bool := decide (lv.length ≤ 1200000)

set_option maxRecDepth 10000 in
theorem Write_spec (a k i : Int) (lv : List UInt8) (s w d : Int) (hlv : lv3 lv = true) :
    ESpec Tryd.prog 18 [.d (.agg [.s (.int .i64 a), .s (.int .i64 k), .s (.int .i64 i), .s (.str lv), .s (.int .i64 s), .s (.int .i64 w), .s (.int .u64 d)])] (fun x => x = .tup [.d (.s (.str (writeS ⟨a, k, i, lv, s, w, d⟩))), .d (.s (.int .i64 (writeE ⟨a, k, i, lv, s, w, d⟩)))]) := by
  obtain ⟨uLine, huLine⟩ : ∃ u : List UInt8 → Bool, u = short := ⟨_, rfl⟩
  obtain ⟨uLine1, huLine1⟩ : ∃ u : Int → Int → Int → List UInt8 → Int → Int → Int → List UInt8, u = lineF := ⟨_, rfl⟩
  obtain ⟨uRead, huRead⟩ : ∃ u : List UInt8 → Bool, u = le20 := ⟨_, rfl⟩
  obtain ⟨uRead1, huRead1⟩ : ∃ u : List UInt8 → Int, u = fun s => (readT s).a := ⟨_, rfl⟩
  obtain ⟨uRead2, huRead2⟩ : ∃ u : List UInt8 → Int, u = fun s => (readT s).k := ⟨_, rfl⟩
  obtain ⟨uRead3, huRead3⟩ : ∃ u : List UInt8 → Int, u = fun s => (readT s).i := ⟨_, rfl⟩
  obtain ⟨uRead4, huRead4⟩ : ∃ u : List UInt8 → List UInt8, u = fun s => (readT s).lv := ⟨_, rfl⟩
  obtain ⟨uRead5, huRead5⟩ : ∃ u : List UInt8 → Int, u = fun s => (readT s).s := ⟨_, rfl⟩
  obtain ⟨uRead6, huRead6⟩ : ∃ u : List UInt8 → Int, u = fun s => (readT s).w := ⟨_, rfl⟩
  obtain ⟨uRead7, huRead7⟩ : ∃ u : List UInt8 → Int, u = fun s => (readT s).d := ⟨_, rfl⟩
  obtain ⟨uRead8, huRead8⟩ : ∃ u : List UInt8 → Int, u = readE := ⟨_, rfl⟩
  have hG : TblOK Tryd.prog [(22, .p (φLine uLine uLine1)), (14, .p (φRead uRead uRead1 uRead2 uRead3 uRead4 uRead5 uRead6 uRead7 uRead8))] := ⟨(by rw [huLine, huLine1]; exact φLine_ok), (by rw [huRead, huRead1, huRead2, huRead3, huRead4, huRead5, huRead6, huRead7, huRead8]; exact φRead_ok), trivial⟩
  obtain ⟨zs, hzs⟩ : ∃ z, z = writeS ⟨a, k, i, lv, s, w, d⟩ := ⟨_, rfl⟩
  obtain ⟨ze, hze⟩ : ∃ z, z = writeE ⟨a, k, i, lv, s, w, d⟩ := ⟨_, rfl⟩
  rw [← hzs, ← hze]
  have hl3 : lv.length ≤ 1200000 := of_decide_eq_true hlv
  refine ESpec.enter Tryd.func18 (by kernel_rfl) rfl (Nat.le_of_ble_eq_true rfl) fun hok cx hnt hfr => ?_
  obtain ⟨F, hF⟩ := real_ex
  refine AK.runT hF tabOK hmix hnt hfr false _ hG ?_
  conv => arg 4; cbv
  have o1 : a ≤ 9223372036854775807 := hok.1.1.2
  have o3 : i ≤ 9223372036854775807 := hok.1.2.2.1.2
  have o5 : s ≤ 9223372036854775807 := hok.1.2.2.2.2.1.2
  have o6 : w ≤ 9223372036854775807 := hok.1.2.2.2.2.2.1.2
  have hll := line_len (k := k) (d := d) o1 o3 o5 o6 (n := 1200000) (by decide) hl3
  have q1 : uLine lv = true := by subst huLine huLine1 huRead huRead1 huRead2 huRead3 huRead4 huRead5 huRead6 huRead7 huRead8; exact decide_eq_true (by omega)
  obtain ⟨ln, hln⟩ : ∃ z, z = uLine1 a k i lv s w d := ⟨_, rfl⟩
  rw [← hln]
  have hln2 : (Tl.mk a k i lv s w d).line = ln := by rw [hln, huLine1]; rfl
  have hlen : ln.length ≤ 7000000 := by rw [← hln2]; exact Nat.le_trans hll (by decide)
  have q2 : uRead ln = true := by subst huLine huLine1 huRead huRead1 huRead2 huRead3 huRead4 huRead5 huRead6 huRead7 huRead8; exact decide_eq_true (by omega)
  unfold writeS okW at hzs
  unfold writeE okW at hze
  rw [hln2] at hzs hze
  repeat' (first | with_reducible refine AKt.have ?_ | with_reducible refine AKt.tt ?_ | with_reducible refine AKt.ff ?_ | with_reducible refine AKt.yes (by assumption) ?_ | with_reducible refine AKt.no (by assumption) ?_ | with_reducible refine AKt.node (fun hb => ?_) (fun hb => ?_) | with_reducible refine AKt.need ?_ (fun hb => ?_) | with_reducible refine AKt.leaf ?_ | ((with_reducible show _ = true); assumption))
  all_goals
    refine AKp.doneE tabOK hfr (by rfl) ?_
    show _ = _
    simp only [tupAV]
    rw [hzs, hze]
    clear hzs hze hln hln2 hok hll
    subst huLine huLine1 huRead huRead1 huRead2 huRead3 huRead4 huRead5 huRead6 huRead7 huRead8
    simp only [hF, f_ltI, f_leI, f_eqI, f_eqS, f_eqB, f_not, f_andB, f_orB, f_lenS, f_lenD, f_hasS, f_atS, f_hasC, f_subS, f_hasCat, f_app, f_wrap, f_add, f_sub, f_mul, f_appD, f_fits, f_hasV, f_subV, decide_eq_true_eq, decide_eq_false_iff_not, beq_iff_eq, beq_eq_false_iff_ne, Bool.and_eq_true, Bool.and_eq_false_iff, Bool.not_eq_true, Bool.not_eq_false, Bool.not_eq_eq_eq_not, Bool.not_true, Bool.not_false] at *
    first
      | (simp_all; done)
      | grind
def φWrite (p : List UInt8 → Bool) (u : Int → Int → Int → List UInt8 → Int → Int → Int → List UInt8) (ue : Int → Int → Int → List UInt8 → Int → Int → Int → Int) : List AV → Option (Bool × AV)
  | [.d (.agg [.s (.int .i64 a), .s (.int .i64 k), .s (.int .i64 i), .s (.str lv), .s (.int .i64 s), .s (.int .i64 w), .s (.int .u64 d)])] => some (p lv, .tup [.d (.s (.str (u a k i lv s w d))), .d (.s (.int .i64 (ue a k i lv s w d)))])
  | _ => none
theorem φWrite_ok : SpOK Tryd.prog 18 (φWrite (lv3) (fun a k i lv s w d => writeS ⟨a, k, i, lv, s, w, d⟩) (fun a k i lv s w d => writeE ⟨a, k, i, lv, s, w, d⟩)) := by
  intro xs b x h hb
  unfold φWrite at h
  split at h
  · simp only [Option.some.injEq, Prod.mk.injEq] at h
    obtain ⟨rfl, rfl⟩ := h
    exact Write_spec _ _ _ _ _ _ _ hb
  · cases h
end Go.Proofs.YtlcgjeafmbbipaaDoor

/- The reference writes. -/
namespace Go.Proofs.YtlcgjeafmbbipaaDoor
open Go Go.Proofs Go.Ua Go.Extern
set_option linter.unusedVariables false
set_option linter.unusedSimpArgs false
set_option maxRecDepth 10000

def inB3 (n a b : Int) : Bool := decide (a ≤ n) && decide (n ≤ b)
theorem within_spec (n a b : Int) : ESpec Tryd.prog 44 [.d (.s (.int .i64 n)), .d (.s (.int .i64 a)), .d (.s (.int .i64 b))] (fun x => x = .d (.s (.bool (inB3 n a b)))) := by
  refine ESpec.enter Tryd.func44 (by kernel_rfl) rfl (Nat.le_of_ble_eq_true rfl) fun _ cx hnt hfr => ?_
  obtain ⟨F, hF⟩ := real_ex
  refine AK.runT hF tabOK hmix hnt hfr false [] trivial ?_
  conv => arg 4; cbv
  repeat' (first | with_reducible refine AKt.have ?_ | with_reducible refine AKt.tt ?_ | with_reducible refine AKt.ff ?_ | with_reducible refine AKt.yes (by assumption) ?_ | with_reducible refine AKt.no (by assumption) ?_ | with_reducible refine AKt.node (fun hb => ?_) (fun hb => ?_) | with_reducible refine AKt.need ?_ (fun hb => ?_) | with_reducible refine AKt.leaf ?_ | ((with_reducible show _ = true); assumption))
  all_goals
    refine AKp.doneE tabOK hfr (by rfl) ?_
    show _ = _
    simp only [tupAV]
    simp only [hF, f_ltI, f_leI, f_eqI, f_eqS, f_eqB, f_not, f_andB, f_orB, f_lenS, f_lenD, f_hasS, f_atS, f_hasC, f_subS, f_hasCat, f_app, f_wrap, f_add, f_sub, f_mul, f_appD, f_fits, f_hasV, f_subV, decide_eq_true_eq, decide_eq_false_iff_not, beq_iff_eq, beq_eq_false_iff_ne, Bool.and_eq_true, Bool.and_eq_false_iff, Bool.not_eq_true, Bool.not_eq_false, Bool.not_eq_eq_eq_not, Bool.not_true, Bool.not_false] at *
    simp [inB3, *]
def φWithin (u : Int → Int → Int → Bool) : List AV → Option (Bool × AV)
  | [.d (.s (.int .i64 n)), .d (.s (.int .i64 a)), .d (.s (.int .i64 b))] => some (true, .d (.s (.bool (u n a b))))
  | _ => none
theorem φWithin_ok : SpOK Tryd.prog 44 (φWithin (inB3)) := by
  intro xs b x h hb
  unfold φWithin at h
  split at h
  · simp only [Option.some.injEq, Prod.mk.injEq] at h
    obtain ⟨rfl, rfl⟩ := h
    exact within_spec _ _ _
  · cases h

def namedB (i : Int) (lv : List UInt8) : Bool := inB3 i 0 999999999 && nameF lv
def bareB (i : Int) (lv : List UInt8) (s : Int) : Bool := decide (i = 0) && (decide (lv = []) && decide (s = 0))
def validB (t : Tl) : Bool := inB3 t.a 0 999999999 &&
  (if t.k = 1 then namedB t.i t.lv && (inB3 t.s 1 16 && (decide (t.w = 0) && decide (t.d = 0)))
   else if t.k = 2 then namedB t.i t.lv && (decide (t.s = 0) && (inB3 t.w 1 99 && decide (t.d = 0)))
   else if t.k = 3 ∨ t.k = 4 ∨ t.k = 5 then namedB t.i t.lv && (decide (t.s = 0) && (decide (t.w = 0) && decide (t.d = 0)))
   else if t.k = 6 then bareB t.i t.lv t.s && (inB3 t.w 1 99 && decide (t.d = 0))
   else if t.k = 7 then bareB t.i t.lv t.s && decide (t.w = 0) else false)
def refS (t : Tl) : List UInt8 := if validB t = true then t.line else []
def refE (t : Tl) : Int := if validB t = true then 0 else 2

set_option maxHeartbeats 1000000 in
theorem RefWrite_spec (a k i : Int) (lv : List UInt8) (s w d : Int) (hlv : lv3 lv = true) :
    ESpec Tryd.prog 29 [.d (.agg [.s (.int .i64 a), .s (.int .i64 k), .s (.int .i64 i), .s (.str lv), .s (.int .i64 s), .s (.int .i64 w), .s (.int .u64 d)])] (fun x => x = .tup [.d (.s (.str (refS ⟨a, k, i, lv, s, w, d⟩))), .d (.s (.int .i64 (refE ⟨a, k, i, lv, s, w, d⟩)))]) := by
  obtain ⟨uWithin, huWithin⟩ : ∃ u : Int → Int → Int → Bool, u = inB3 := ⟨_, rfl⟩
  obtain ⟨uRefDigits, huRefDigits⟩ : ∃ u : Int → List UInt8, u = fun n => Lib.decDigits n.toNat := ⟨_, rfl⟩
  obtain ⟨uRefName, huRefName⟩ : ∃ u : List UInt8 → Bool, u = nameF := ⟨_, rfl⟩
  obtain ⟨uRefHex, huRefHex⟩ : ∃ u : Int → List UInt8, u = fun n => hexN 16 n.toNat := ⟨_, rfl⟩
  have hG : TblOK Tryd.prog [(44, .p (φWithin uWithin)), (43, .p (φRefDigits uRefDigits)), (45, .p (φRefName uRefName)), (46, .p (φRefHex uRefHex))] := ⟨(by rw [huWithin]; exact φWithin_ok), (by rw [huRefDigits]; exact φRefDigits_ok), (by rw [huRefName]; exact φRefName_ok), (by rw [huRefHex]; exact φRefHex_ok), trivial⟩
  obtain ⟨zs, hzs⟩ : ∃ z, z = refS ⟨a, k, i, lv, s, w, d⟩ := ⟨_, rfl⟩
  obtain ⟨ze, hze⟩ : ∃ z, z = refE ⟨a, k, i, lv, s, w, d⟩ := ⟨_, rfl⟩
  rw [← hzs, ← hze]
  have hl3 : lv.length ≤ 1200000 := of_decide_eq_true hlv
  refine ESpec.enter Tryd.func29 (by kernel_rfl) rfl (Nat.le_of_ble_eq_true rfl) fun hok cx hnt hfr => ?_
  obtain ⟨F, hF⟩ := real_ex
  refine AK.runTs hF tabOK hmix hnt hfr [8] false _ hG ?_
  conv => arg 4; cbv
  have o1 : a ≤ 9223372036854775807 := hok.1.1.2
  have o3 : i ≤ 9223372036854775807 := hok.1.2.2.1.2
  have o5 : s ≤ 9223372036854775807 := hok.1.2.2.2.2.1.2
  have o6 : w ≤ 9223372036854775807 := hok.1.2.2.2.2.2.1.2
  have d1 := digI_len o1
  have d3 := digI_len o3
  have d5 := digI_len o5
  have d6 := digI_len o6
  have ea : uRefDigits a = digI a := by subst huWithin huRefDigits huRefName huRefHex; rfl
  have ei : uRefDigits i = digI i := by subst huWithin huRefDigits huRefName huRefHex; rfl
  have es : uRefDigits s = digI s := by subst huWithin huRefDigits huRefName huRefHex; rfl
  have ew : uRefDigits w = digI w := by subst huWithin huRefDigits huRefName huRefHex; rfl
  have eh : uRefHex d = hexI d := by subst huWithin huRefDigits huRefName huRefHex; rfl
  rw [ea, ei]
  obtain ⟨da, hda⟩ : ∃ z, z = digI a := ⟨_, rfl⟩
  obtain ⟨di, hdi⟩ : ∃ z, z = digI i := ⟨_, rfl⟩
  rw [← hda, ← hdi]
  have a1 : F .app [32] di = 32 :: di := by rw [hF]; rfl
  have a2 : F .app (32 :: di) [32] = 32 :: di ++ [32] := by rw [hF]; rfl
  have a3 : F .app (32 :: di ++ [32]) lv = 32 :: di ++ [32] ++ lv := by rw [hF]; rfl
  rw [a1, a2, a3]
  obtain ⟨who, hwho⟩ : ∃ z, z = 32 :: di ++ [32] ++ lv := ⟨_, rfl⟩
  rw [← hwho]
  have bad : validB ⟨a, k, i, lv, s, w, d⟩ = false → zs = [] ∧ ze = 2 := fun h => by rw [hzs, hze, refS, refE, h]; exact ⟨rfl, rfl⟩
  have good : validB ⟨a, k, i, lv, s, w, d⟩ = true → zs = Lib.join (lineW a k i lv s w d) [32] ∧ ze = 0 := fun h => by rw [hzs, hze, refS, refE, h]; exact ⟨rfl, rfl⟩
  unfold validB at bad good
  simp only at bad good
  clear hzs hze
  have hcat : ∀ x y : List UInt8, x.length + y.length ≤ 10000000 → F .hasCat x y = true := fun x y h => t_hasCat hF (by omega)
  have hdl : da.length ≤ 21 := by rw [hda]; exact d1
  have hdl2 : di.length ≤ 21 := by rw [hdi]; exact d3
  have hwl : who.length ≤ 1200030 := by rw [hwho]; simp; omega
  have c1 : F .hasCat [32] di = true := hcat _ _ (by simp; omega)
  have c2 : F .hasCat (32 :: di) [32] = true := hcat _ _ (by simp; omega)
  have c3 : F .hasCat (32 :: di ++ [32]) lv = true := hcat _ _ (by simp; omega)
  refine exK ?K0 fun kk hK => ?_
  rotate_left
  have rest : ∀ nb wb bb : Bool, F .not (uWithin a 0 999999999) = false → nb = namedB i lv → wb = inB3 w 1 99 → bb = bareB i lv s → AK Tryd.prog cx (finE Tryd.prog Tryd.f29 cx fun x => x = .tup [.d (.s (.str zs)), .d (.s (.int .i64 ze))]) kk
      ⟨[(1, .ptr 0 0 0 7), (2, .d (.s (.str []))), (3, .d (.s (.int .i64 0))), (4, .d (.s (.str da))), (5, .d (.s (.str who))), (6, .d (.s (.bool nb))), (7, .d (.s (.bool wb))), (8, .d (.s (.bool bb)))],
        [(0, .cs 37 [.d (.s (.int .i64 a)), .d (.s (.int .i64 k)), .d (.s (.int .i64 i)), .d (.s (.str lv)), .d (.s (.int .i64 s)), .d (.s (.int .i64 w)), .d (.s (.int .u64 d))])], 1⟩ := ?restg
  repeat' (first | with_reducible refine AKt.have ?_ | with_reducible refine AKt.tt ?_ | with_reducible refine AKt.ff ?_ | with_reducible refine AKt.yes (by assumption) ?_ | with_reducible refine AKt.no (by assumption) ?_ | with_reducible refine AKt.node (fun hb => ?_) (fun hb => ?_) | with_reducible refine AKt.need ?_ (fun hb => ?_) | with_reducible refine AKt.leaf ?_ | ((with_reducible show _ = true); assumption))
  · obtain ⟨g1, g2⟩ := bad (by
      subst huWithin huRefDigits huRefName huRefHex
      simp only [hF, f_ltI, f_leI, f_eqI, f_eqS, f_eqB, f_not, f_andB, f_orB, f_lenS, f_lenD, f_hasS, f_atS, f_hasC, f_subS, f_hasCat, f_app, f_wrap, f_add, f_sub, f_mul, f_appD, f_fits, f_hasV, f_subV, decide_eq_true_eq, decide_eq_false_iff_not, beq_iff_eq, beq_eq_false_iff_ne, Bool.and_eq_true, Bool.and_eq_false_iff, Bool.not_eq_true, Bool.not_eq_false, Bool.not_eq_eq_eq_not, Bool.not_true, Bool.not_false] at hb
      rw [hb]; rfl)
    refine AKp.doneE tabOK hfr (by rfl) ?_
    show _ = _
    simp only [tupAV]
    rw [g1, g2]
  all_goals try (
    show AKp _ _ _ _
    first
      | (refine AKp.join hK _ hfr ?_ ?_ (rest (uRefName lv) (uWithin w 1 99) (F .eqI s 0) (by assumption) ?_ ?_ ?_)
         · repeat (first | exact True.intro | refine ⟨⟨rfl, rfl⟩, ?_⟩))
      | (refine AKp.join hK _ hfr ?_ ?_ (rest (uRefName lv) (uWithin w 1 99) false (by assumption) ?_ ?_ ?_)
         · repeat (first | exact True.intro | refine ⟨⟨rfl, rfl⟩, ?_⟩))
      | (refine AKp.join hK _ hfr ?_ ?_ (rest false (uWithin w 1 99) (F .eqI s 0) (by assumption) ?_ ?_ ?_)
         · repeat (first | exact True.intro | refine ⟨⟨rfl, rfl⟩, ?_⟩))
      | (refine AKp.join hK _ hfr ?_ ?_ (rest false (uWithin w 1 99) false (by assumption) ?_ ?_ ?_)
         · repeat (first | exact True.intro | refine ⟨⟨rfl, rfl⟩, ?_⟩))
    · repeat (first | exact True.intro | refine ⟨⟨rfl, rfl, rfl⟩, ?_⟩)
    all_goals
      clear rest bad good hcat hG
      subst huWithin huRefDigits huRefName huRefHex
      simp only [hF, f_ltI, f_leI, f_eqI, f_eqS, f_eqB, f_not, f_andB, f_orB, f_lenS, f_lenD, f_hasS, f_atS, f_hasC, f_subS, f_hasCat, f_app, f_wrap, f_add, f_sub, f_mul, f_appD, f_fits, f_hasV, f_subV, decide_eq_true_eq, decide_eq_false_iff_not, beq_iff_eq, beq_eq_false_iff_ne, Bool.and_eq_true, Bool.and_eq_false_iff, Bool.not_eq_true, Bool.not_eq_false, Bool.not_eq_eq_eq_not, Bool.not_true, Bool.not_false] at *
      try first
        | (simp [namedB, bareB, *]; done)
        | grind [namedB, bareB]
        | (rw [Bool.eq_iff_iff]; grind [namedB, bareB]))
  case' restg =>
    intro nb wb bb haw hnb hwb hbb
    rw [← hnb, ← hwb, ← hbb] at bad good
    clear hnb hwb hbb
    rw [hK]
    refine AK.runT hF tabOK hmix hnt hfr false _ hG ?_
    conv => arg 4; cbv
    clear hK hok hcat c1 c2 c3
    have hcat : ∀ x y : List UInt8, x.length + y.length ≤ 10000000 → F .hasCat x y = true := fun x y h => t_hasCat hF (by omega)
    have dh : (hexI d).length ≤ 21 := by unfold hexI; rw [hexN_len]; decide
    have app := t_app hF
    have j0 : k = 3 → F .inB (F .wrap .i64 (F .sub k 3)) 3 = some 0 := fun e => by rw [e, hF]; decide +kernel
    have j1 : k = 4 → F .inB (F .wrap .i64 (F .sub k 3)) 3 = some 1 := fun e => by rw [e, hF]; decide +kernel
    have j2 : k = 5 → F .inB (F .wrap .i64 (F .sub k 3)) 3 = some 2 := fun e => by rw [e, hF]; decide +kernel
    rw [huWithin] at haw
    have haw : inB3 a 0 999999999 = true := by
      simp only [hF, f_ltI, f_leI, f_eqI, f_eqS, f_eqB, f_not, f_andB, f_orB, f_lenS, f_lenD, f_hasS, f_atS, f_hasC, f_subS, f_hasCat, f_app, f_wrap, f_add, f_sub, f_mul, f_appD, f_fits, f_hasV, f_subV, decide_eq_true_eq, decide_eq_false_iff_not, beq_iff_eq, beq_eq_false_iff_ne, Bool.and_eq_true, Bool.and_eq_false_iff, Bool.not_eq_true, Bool.not_eq_false, Bool.not_eq_eq_eq_not, Bool.not_true, Bool.not_false] at haw
      exact haw
    rw [haw, Bool.true_and] at bad good
    have dv := verbF_len k
    repeat' (first | with_reducible refine AKt.have ?_ | with_reducible refine AKt.tt ?_ | with_reducible refine AKt.ff ?_ | with_reducible refine AKt.yes (by assumption) ?_ | with_reducible refine AKt.no (by assumption) ?_ | with_reducible refine AKt.node (fun hb => ?_) (fun hb => ?_) | with_reducible refine AKt.need ?_ (fun hb => ?_) | with_reducible refine AKt.leaf ?_ | ((with_reducible show _ = true); assumption))
    all_goals try (
      show AKt _ _ _ _
      first
        | rw [j0 (eqI1 hF ‹F .eqI k 3 = true›)]
        | rw [j1 (eqI1 hF ‹F .eqI k 4 = true›)]
        | rw [j2 (eqI1 hF ‹F .eqI k 5 = true›)]
      conv => arg 4; cbv
      repeat' (first | with_reducible refine AKt.have ?_ | with_reducible refine AKt.tt ?_ | with_reducible refine AKt.ff ?_ | with_reducible refine AKt.yes (by assumption) ?_ | with_reducible refine AKt.no (by assumption) ?_ | with_reducible refine AKt.node (fun hb => ?_) (fun hb => ?_) | with_reducible refine AKt.need ?_ (fun hb => ?_) | with_reducible refine AKt.leaf ?_ | ((with_reducible show _ = true); assumption))
      skip)
    all_goals first
      | (with_reducible refine hcat _ _ ?_
         try simp only [es, ew, eh]
         simp only [app, List.length_append, List.length_cons, List.length_nil]
         omega)
      | (refine AKp.doneE tabOK hfr (by rfl) ?_
         show _ = _
         simp only [tupAV]
         try simp only [es, ew, eh]
         clear hcat j0 j1 j2 es ew eh ea ei a1 a2 a3
         subst huWithin hda hdi hwho
         first
           | (have g := bad (by
                clear bad good app
                simp only [hF, f_ltI, f_leI, f_eqI, f_eqS, f_eqB, f_not, f_andB, f_orB, f_lenS, f_lenD, f_hasS, f_atS, f_hasC, f_subS, f_hasCat, f_app, f_wrap, f_add, f_sub, f_mul, f_appD, f_fits, f_hasV, f_subV, decide_eq_true_eq, decide_eq_false_iff_not, beq_iff_eq, beq_eq_false_iff_ne, Bool.and_eq_true, Bool.and_eq_false_iff, Bool.not_eq_true, Bool.not_eq_false, Bool.not_eq_eq_eq_not, Bool.not_true, Bool.not_false] at *
                simp [*])
              rw [g.1, g.2]
              done)
           | (have g := good (by
                clear bad good app
                simp only [hF, f_ltI, f_leI, f_eqI, f_eqS, f_eqB, f_not, f_andB, f_orB, f_lenS, f_lenD, f_hasS, f_atS, f_hasC, f_subS, f_hasCat, f_app, f_wrap, f_add, f_sub, f_mul, f_appD, f_fits, f_hasV, f_subV, decide_eq_true_eq, decide_eq_false_iff_not, beq_iff_eq, beq_eq_false_iff_ne, Bool.and_eq_true, Bool.and_eq_false_iff, Bool.not_eq_true, Bool.not_eq_false, Bool.not_eq_eq_eq_not, Bool.not_true, Bool.not_false] at *
                simp [*])
              clear bad good
              rw [g.1, g.2]
              clear g
              simp only [app]
              simp only [hF, f_ltI, f_leI, f_eqI, f_eqS, f_eqB, f_not, f_andB, f_orB, f_lenS, f_lenD, f_hasS, f_atS, f_hasC, f_subS, f_hasCat, f_app, f_wrap, f_add, f_sub, f_mul, f_appD, f_fits, f_hasV, f_subV, decide_eq_true_eq, decide_eq_false_iff_not, beq_iff_eq, beq_eq_false_iff_ne, Bool.and_eq_true, Bool.and_eq_false_iff, Bool.not_eq_true, Bool.not_eq_false, Bool.not_eq_eq_eq_not, Bool.not_true, Bool.not_false] at *
              simp [lineW, join_cons2, Lib.join_one, verbF, *]))
def φRefWrite (p : List UInt8 → Bool) (u : Int → Int → Int → List UInt8 → Int → Int → Int → List UInt8) (ue : Int → Int → Int → List UInt8 → Int → Int → Int → Int) : List AV → Option (Bool × AV)
  | [.d (.agg [.s (.int .i64 a), .s (.int .i64 k), .s (.int .i64 i), .s (.str lv), .s (.int .i64 s), .s (.int .i64 w), .s (.int .u64 d)])] => some (p lv, .tup [.d (.s (.str (u a k i lv s w d))), .d (.s (.int .i64 (ue a k i lv s w d)))])
  | _ => none
theorem φRefWrite_ok : SpOK Tryd.prog 29 (φRefWrite (lv3) (fun a k i lv s w d => refS ⟨a, k, i, lv, s, w, d⟩) (fun a k i lv s w d => refE ⟨a, k, i, lv, s, w, d⟩)) := by
  intro xs b x h hb
  unfold φRefWrite at h
  split at h
  · simp only [Option.some.injEq, Prod.mk.injEq] at h
    obtain ⟨rfl, rfl⟩ := h
    exact RefWrite_spec _ _ _ _ _ _ _ hb
  · cases h
end Go.Proofs.YtlcgjeafmbbipaaDoor

/- Lines of words: plain laws; lists of bytes. -/
namespace Go.Proofs.YtlcgjeafmbbipaaDoor
open Go Go.Proofs Go.Ua Go.Extern
set_option linter.unusedVariables false
set_option linter.unusedSimpArgs false

def intDs (ns : List Int) : List Dat := ns.map fun n => .s (.int .u8 n)

theorem words_blanks (n : Nat) (x : List UInt8) : wordsF (List.replicate n 32 ++ x) = wordsF x := by
  induction n with
  | zero => rfl
  | succ n ih =>
    have := words_app (p := []) (List.replicate n 32 ++ x) (by simp)
    rw [List.replicate_succ, List.cons_append]
    exact this.trans ih

/-- A line that is read as ws, whatever follows behind a blank. -/
def LineOK (line : List UInt8) (ws : List (List UInt8)) : Prop := wordsF line = ws ∧ ∀ r, wordsF (line ++ 32 :: r) = ws ++ wordsF r
theorem line_nil : LineOK [] [] := ⟨rfl, fun r => words_app (p := []) r (by simp)⟩
theorem word_no {w : List UInt8} (h : wordF w = true) : w ≠ [] ∧ (32 : UInt8) ∉ w ∧ (10 : UInt8) ∉ w := by
  refine ⟨(word_parts h).1, fun hm => ?_, fun hm => ?_⟩
  · rw [wordF_no hm (.inr (.inl rfl))] at h; cases h
  · rw [wordF_no hm (.inr (.inr rfl))] at h; cases h
theorem line_snoc {line : List UInt8} {ws : List (List UInt8)} (h : LineOK line ws) (n : Nat) {w : List UInt8} (hw : wordF w = true) : LineOK (line ++ List.replicate (n + 1) 32 ++ w) (ws ++ [w]) := by
  obtain ⟨h1, h2, _⟩ := word_no hw
  have e : ∀ r, line ++ List.replicate (n + 1) 32 ++ r = line ++ 32 :: (List.replicate n 32 ++ r) := fun r => by simp [List.replicate_succ]
  refine ⟨?_, fun r => ?_⟩
  · rw [e, h.2, words_blanks]
    have := words_none h2
    rw [if_neg h1] at this
    exact congrArg (ws ++ ·) this
  · rw [List.append_assoc, e, h.2, words_blanks]
    have := words_app r h2
    rw [if_neg h1] at this
    rw [show wordsF (w ++ 32 :: r) = [w] ++ wordsF r from this, List.append_assoc]
def linesOf (ws : List (List UInt8)) : List UInt8 := (ws.map fun w => w ++ [10]).flatten
theorem linesOf_snoc (ws : List (List UInt8)) (w : List UInt8) : linesOf (ws ++ [w]) = linesOf ws ++ (w ++ [10]) := by simp [linesOf]
theorem cut_lines : ∀ {ws : List (List UInt8)}, (∀ w, w ∈ ws → wordF w = true) → cutF 10 (linesOf ws) = ws ++ [[]]
  | [], _ => rfl
  | w :: ws, h => by
    have ih := cut_lines (ws := ws) fun x hx => h x (List.mem_cons_of_mem _ hx)
    have : linesOf (w :: ws) = w ++ 10 :: linesOf ws := by simp [linesOf]
    rw [this, cut_app _ (word_no (h w (by simp))).2.2, ih]
    rfl
theorem lines_of {ws : List (List UInt8)} (h : ∀ w, w ∈ ws → wordF w = true) : linesF (linesOf ws) = ws := by
  unfold linesF
  rw [cut_lines h]
  simp

theorem typed_bytes {f : Nat} {l : List Dat} (h : typed tab (f + 2) 90 l) : ∃ zs, l = [.view 1 (intDs zs)] := by
  obtain ⟨es, rfl, hlen, hes⟩ := h
  clear hlen
  have : ∃ zs, es = intDs zs := by
    induction es with
    | nil => exact ⟨[], rfl⟩
    | cons x es ih =>
      obtain ⟨zs, rfl⟩ := ih fun x hx => hes x (List.mem_cons_of_mem _ hx)
      obtain ⟨l', rfl, s, rfl, _⟩ := hes x (by simp)
      exact ⟨s :: zs, rfl⟩
  obtain ⟨zs, rfl⟩ := this
  exact ⟨zs, rfl⟩
end Go.Proofs.YtlcgjeafmbbipaaDoor

/- What is told is read as it was written: plain laws. -/
namespace Go.Proofs.YtlcgjeafmbbipaaDoor
open Go Go.Proofs Go.Ua Go.Extern
set_option linter.unusedVariables false
set_option linter.unusedSimpArgs false

theorem words_join {ws : List (List UInt8)} (h : ∀ w, w ∈ ws → w ≠ [] ∧ (32 : UInt8) ∉ w) : wordsF (Lib.join ws [32]) = ws := by
  by_cases h0 : ws = []
  · subst h0; rw [Lib.join_nil]; rfl
  · unfold wordsF
    rw [cut_join h0 fun p hp => (h p hp).2]
    refine List.filter_eq_self.2 fun p hp => ?_
    simpa using (h p hp).1
theorem dig_word (n : Int) : digI n ≠ [] ∧ (32 : UInt8) ∉ digI n := by
  refine ⟨fun h => ?_, fun hm => ?_⟩
  · have := dig_pos n.toNat
    unfold digI at h
    rw [h] at this
    simp at this
  · have := List.all_eq_true.1 (dig_all n.toNat) 32 hm
    exact absurd this (by decide)
theorem hex_word (d : Int) : hexI d ≠ [] ∧ (32 : UInt8) ∉ hexI d := by
  refine ⟨fun h => ?_, fun hm => ?_⟩
  · have := hexN_len 16 d.toNat
    unfold hexI at h
    rw [h] at this
    simp at this
  · have key : ∀ (k n : Nat), (32 : UInt8) ∉ hexN k n := by
      intro k
      induction k with
      | zero => intro n; simp [hexN]
      | succ k ih =>
        intro n
        rw [hexN]
        simp only [List.mem_append, List.mem_singleton, not_or]
        refine ⟨ih _, ?_⟩
        have e : ∀ d : Nat, d < 16 → (32 : UInt8) ≠ hexC d := by decide
        exact e _ (Nat.mod_lt _ (by decide))
    exact key _ _ hm
theorem verb_word : ∀ k : Nat, 1 ≤ k → k ≤ 7 → verbF k ≠ [] ∧ (32 : UInt8) ∉ verbF k ∧ kindS (verbF k) = k := by
  intro k h1 h7
  have hk : k = 1 ∨ k = 2 ∨ k = 3 ∨ k = 4 ∨ k = 5 ∨ k = 6 ∨ k = 7 := by omega
  rcases hk with rfl | rfl | rfl | rfl | rfl | rfl | rfl <;> decide
theorem name_word {lv : List UInt8} (h : nameF lv = true) : lv ≠ [] ∧ (32 : UInt8) ∉ lv := ⟨(word_no (word_of_name h)).1, (word_no (word_of_name h)).2.1⟩
theorem num_digI {n lo hi : Int} (h0 : 0 ≤ n) (h1 : n ≤ 999999999) (hl : lo ≤ n) (hh : n ≤ hi) : numV (digI n) lo hi = n ∧ numB (digI n) lo hi = true := by
  have hv : ((valN (digI n) : Nat) : Int) = n := by unfold digI; rw [dig_val]; omega
  have hf : numForm (digI n) = true := num_of_dig (by omega)
  unfold numV numB numberF
  rw [hv, if_pos ⟨hf, hl, hh⟩]
  exact ⟨rfl, rfl⟩
theorem num_in {w : List UInt8} {lo hi : Int} (h : numB w lo hi = true) : 0 ≤ numV w lo hi ∧ lo ≤ numV w lo hi ∧ numV w lo hi ≤ hi := by
  unfold numB numV numberF at *
  split at h
  · rename_i g
    rw [if_pos g]
    exact ⟨by show (0 : Int) ≤ (valN w : Int); omega, g.2.1, g.2.2⟩
  · cases h
theorem unhex_in (w : List UInt8) : 0 ≤ unhexV w ∧ unhexV w ≤ 18446744073709551615 := by
  unfold unhexV
  split
  · rename_i h
    unfold unhexB at h
    simp only [Bool.and_eq_true, decide_eq_true_eq] at h
    have := foldH_lt w.length (Nat.le_refl _) (by rw [List.take_length]; exact h.2)
    rw [List.take_length, h.1] at this
    omega
  · omega

def inD (d : Int) : Prop := 0 ≤ d ∧ d ≤ 18446744073709551615
theorem inB3_iff {n a b : Int} : inB3 n a b = true ↔ a ≤ n ∧ n ≤ b := by simp [inB3]

/-- What may be told is told by words that say it. -/
theorem valid_words {t : Tl} (h : validB t = true) (hd : inD t.d) : parsedF (lineW t.a t.k t.i t.lv t.s t.w t.d) = (t, true) ∧ wordsF t.line = lineW t.a t.k t.i t.lv t.s t.w t.d := by
  obtain ⟨a, k, i, lv, s, w, d⟩ := t
  simp only [validB, Bool.and_eq_true, inB3_iff] at h
  obtain ⟨ha, h⟩ := h
  obtain ⟨ga, gb⟩ := num_digI ha.1 ha.2 ha.1 ha.2
  have da := dig_word a
  have vk : ∀ n : Nat, k = n → 1 ≤ n → n ≤ 7 → verbF k ≠ [] ∧ (32 : UInt8) ∉ verbF k ∧ kindS (verbF k) = k := fun n e h1 h2 => by rw [e]; exact verb_word n h1 h2
  have five : ∀ x : List UInt8, True := fun _ => trivial
  show parsedF (lineW a k i lv s w d) = _ ∧ wordsF (Lib.join (lineW a k i lv s w d) [32]) = lineW a k i lv s w d
  by_cases k1 : k = 1
  · subst k1
    rw [if_pos rfl] at h
    simp only [namedB, Bool.and_eq_true, inB3_iff, decide_eq_true_eq] at h
    obtain ⟨⟨hi, hn⟩, hs, rfl, rfl⟩ := h
    obtain ⟨v1, v2, v3⟩ := vk 1 rfl (by decide) (by decide)
    obtain ⟨gi, gj⟩ := num_digI hi.1 hi.2 hi.1 hi.2
    obtain ⟨gs, gt⟩ := num_digI (by omega) (by omega) hs.1 hs.2
    refine ⟨?_, words_join ?_⟩
    · simp [lineW, parsedF, ga, gb, v3, gi, gj, gs, gt, hn]
    · simp [lineW, da, dig_word i, dig_word s, name_word hn, v1, v2]
  rw [if_neg k1] at h
  by_cases k2 : k = 2
  · subst k2
    rw [if_pos rfl] at h
    simp only [namedB, Bool.and_eq_true, inB3_iff, decide_eq_true_eq] at h
    obtain ⟨⟨hi, hn⟩, rfl, hw, rfl⟩ := h
    obtain ⟨v1, v2, v3⟩ := vk 2 rfl (by decide) (by decide)
    obtain ⟨gi, gj⟩ := num_digI hi.1 hi.2 hi.1 hi.2
    obtain ⟨gs, gt⟩ := num_digI (by omega) (by omega) hw.1 hw.2
    refine ⟨?_, words_join ?_⟩
    · simp [lineW, parsedF, ga, gb, v3, gi, gj, gs, gt, hn]
    · simp [lineW, da, dig_word i, dig_word w, name_word hn, v1, v2]
  rw [if_neg k2] at h
  by_cases k3 : k = 3 ∨ k = 4 ∨ k = 5
  · rw [if_pos k3] at h
    simp only [namedB, Bool.and_eq_true, inB3_iff, decide_eq_true_eq] at h
    obtain ⟨⟨hi, hn⟩, rfl, rfl, rfl⟩ := h
    obtain ⟨n, hkn, h1, h2⟩ : ∃ n : Nat, k = n ∧ 1 ≤ n ∧ n ≤ 7 := by
      rcases k3 with rfl | rfl | rfl
      · exact ⟨3, rfl, by decide, by decide⟩
      · exact ⟨4, rfl, by decide, by decide⟩
      · exact ⟨5, rfl, by decide, by decide⟩
    obtain ⟨v1, v2, v3⟩ := vk n hkn h1 h2
    obtain ⟨gi, gj⟩ := num_digI hi.1 hi.2 hi.1 hi.2
    have k6 : k ≠ 6 := by omega
    have k7 : k ≠ 7 := by omega
    have k0 : k ≠ 0 := by omega
    refine ⟨?_, words_join ?_⟩
    · simp [lineW, parsedF, ga, gb, v3, gi, gj, hn, k1, k2, k6, k7, k0]
    · simp [lineW, da, dig_word i, name_word hn, v1, v2, k1, k2, k6, k7]
  rw [if_neg k3] at h
  by_cases k6 : k = 6
  · subst k6
    rw [if_pos rfl] at h
    simp only [bareB, Bool.and_eq_true, inB3_iff, decide_eq_true_eq] at h
    obtain ⟨⟨rfl, rfl, rfl⟩, hw, rfl⟩ := h
    obtain ⟨v1, v2, v3⟩ := vk 6 rfl (by decide) (by decide)
    obtain ⟨gs, gt⟩ := num_digI (by omega) (by omega) hw.1 hw.2
    refine ⟨?_, words_join ?_⟩
    · simp [lineW, parsedF, ga, gb, v3, gs, gt]
    · simp [lineW, da, dig_word w, v1, v2]
  rw [if_neg k6] at h
  by_cases k7 : k = 7
  · subst k7
    rw [if_pos rfl] at h
    simp only [bareB, Bool.and_eq_true, decide_eq_true_eq] at h
    obtain ⟨⟨rfl, rfl, rfl⟩, rfl⟩ := h
    obtain ⟨v1, v2, v3⟩ := vk 7 rfl (by decide) (by decide)
    obtain ⟨u1, u2⟩ := unhex_hex hd.1 hd.2
    have u1 : unhexB (hexI d) = true := u1
    have u2 : unhexV (hexI d) = d := u2
    refine ⟨?_, words_join ?_⟩
    · simp [lineW, parsedF, ga, gb, v3, u1, u2]
    · simp [lineW, da, hex_word d, v1, v2]
  rw [if_neg k7] at h
  cases h

/-- What words say may be told. -/
theorem parsed_valid {ws : List (List UInt8)} (h : (parsedF ws).2 = true) : validB (parsedF ws).1 = true ∧ inD (parsedF ws).1.d := by
  unfold parsedF at h ⊢
  have kl := kindS_le (ws.getD 1 [])
  have z : inD 0 := ⟨by decide, by decide⟩
  have hx := unhex_in (ws.getD 2 [])
  generalize ws.getD 0 [] = w0 at *
  generalize ws.getD 1 [] = w1 at *
  generalize ws.getD 2 [] = w2 at *
  generalize ws.getD 3 [] = w3 at *
  generalize ws.getD 4 [] = w4 at *
  generalize kindS w1 = kd at *
  split at h
  · cases h
  split at h
  · cases h
  rename_i h3 h0
  simp only [not_or] at h0
  have n0 := num_in (w := w0) (lo := 0) (hi := 999999999) (by simpa using h0.1)
  rw [if_neg h3, if_neg (by simpa using h0)]
  split at h
  · rename_i k6
    simp only [Bool.and_eq_true] at h
    have n2 := num_in h.1
    rw [if_pos k6]
    refine ⟨?_, z⟩
    simp [validB, inB3, bareB, n0, n2]
  rename_i k6
  rw [if_neg k6]
  split at h
  · rename_i k7
    rw [if_pos k7]
    refine ⟨?_, hx⟩
    simp [validB, inB3, bareB, n0]
  rename_i k7
  rw [if_neg k7]
  split at h
  · cases h
  rename_i hid
  simp only [not_or, Bool.not_eq_false] at hid
  have n2 := num_in hid.1
  rw [if_neg (by simpa using hid)]
  split at h
  · rename_i k1
    have n4 := num_in h
    rw [if_pos k1]
    refine ⟨?_, z⟩
    simp [validB, inB3, namedB, n0, n2, n4, k1.1, hid.2.2]
  rename_i k1
  rw [if_neg k1]
  split at h
  · rename_i k2
    have n4 := num_in h
    rw [if_pos k2]
    refine ⟨?_, z⟩
    simp [validB, inB3, namedB, n0, n2, n4, k2.1, hid.2.2]
  rename_i k2
  rw [if_neg k2]
  simp only [Bool.and_eq_true, Bool.not_eq_true', decide_eq_false_iff_not, decide_eq_true_eq] at h
  have k345 : kd = 3 ∨ kd = 4 ∨ kd = 5 := by omega
  refine ⟨?_, z⟩
  simp [validB, inB3, namedB, n0, n2, h.1, h.2.1, k345, hid.2.2]
end Go.Proofs.YtlcgjeafmbbipaaDoor

/- What is told, read and written: plain laws; the reference's trials. -/
namespace Go.Proofs.YtlcgjeafmbbipaaDoor
open Go Go.Proofs Go.Ua Go.Extern
set_option linter.unusedVariables false
set_option linter.unusedSimpArgs false

theorem valid_read {t : Tl} (h : validB t = true) (hd : inD t.d) : okR t.line = true ∧ readT t.line = t ∧ readE t.line = 0 := by
  obtain ⟨h1, h2⟩ := valid_words h hd
  have ok : okR t.line = true := by
    rw [okR, h2, h1]
    exact decide_eq_true rfl
  refine ⟨ok, ?_, ?_⟩
  · rw [readT, if_pos ok, h2, h1]
  · rw [readE, if_pos ok]
theorem read_valid {s : List UInt8} (h : okR s = true) : validB (readT s) = true ∧ inD (readT s).d ∧ (readT s).line = s := by
  have h' := h
  unfold okR at h'
  simp only [Bool.and_eq_true, decide_eq_true_eq] at h'
  obtain ⟨g1, g2⟩ := parsed_valid h'.1
  rw [readT, if_pos h]
  exact ⟨g1, g2, h'.2⟩
theorem okW_valid {t : Tl} (hd : inD t.d) : okW t = validB t := by
  rw [Bool.eq_iff_iff]
  constructor
  · intro h
    simp only [okW, Bool.and_eq_true, decide_eq_true_eq] at h
    obtain ⟨h0, h1, h2, h3, h4, h5, h6, h7⟩ := h
    have ok : okR t.line = true := by
      unfold readE at h0
      split at h0
      · assumption
      · exact absurd h0 (by decide)
    have := (read_valid ok).1
    have e : readT t.line = t := by
      cases hr : readT t.line
      rw [hr] at h1 h2 h3 h4 h5 h6 h7
      cases t
      simp_all
    rwa [e] at this
  · intro h
    obtain ⟨g1, g2, g3⟩ := valid_read h hd
    simp [okW, g2, g3]
theorem write_ref {t : Tl} (hd : inD t.d) : writeS t = refS t ∧ writeE t = refE t := by
  unfold writeS writeE refS refE
  rw [okW_valid hd]
  exact ⟨rfl, rfl⟩

def lastW (ws : List (List UInt8)) : List UInt8 := ws.getD (ws.length - 1) []
/-- What is tried of a kind. -/
def cand (ws : List (List UInt8)) (k : Int) : Tl :=
  if k = 6 then ⟨numV (ws.getD 0 []) 0 999999999, k, 0, [], 0, numV (lastW ws) 0 999999999, 0⟩
  else if k = 7 then ⟨numV (ws.getD 0 []) 0 999999999, k, 0, [], 0, 0, unhexV (ws.getD 2 [])⟩
  else ⟨numV (ws.getD 0 []) 0 999999999, k, numV (ws.getD 2 []) 0 999999999, ws.getD 3 [], if k = 1 then numV (lastW ws) 0 999999999 else 0, if k = 2 then numV (lastW ws) 0 999999999 else 0, 0⟩
def hitB (s : List UInt8) (k : Int) : Bool := (decide (k = 6) || (decide (k = 7) || decide (4 ≤ (wordsF s).length))) && (validB (cand (wordsF s) k) && decide ((cand (wordsF s) k).line = s))

theorem cand_inD (ws : List (List UInt8)) (k : Int) : inD (cand ws k).d := by
  unfold cand
  have z : inD 0 := ⟨by decide, by decide⟩
  split
  · exact z
  split
  · exact unhex_in _
  · exact z
theorem hit_read {s : List UInt8} {k : Int} (h : hitB s k = true) : readT s = cand (wordsF s) k ∧ readE s = 0 := by
  unfold hitB at h
  simp only [Bool.and_eq_true, decide_eq_true_eq] at h
  obtain ⟨_, h1, h2⟩ := h
  obtain ⟨_, g2, g3⟩ := valid_read h1 (cand_inD _ _)
  rw [h2] at g2 g3
  exact ⟨g2, g3⟩
theorem valid_hit {t : Tl} (h : validB t = true) (hd : inD t.d) : 3 ≤ (wordsF t.line).length ∧ (wordsF t.line).length ≤ 5 ∧ hitB t.line t.k = true ∧ 1 ≤ t.k ∧ t.k ≤ 7 := by
  have hw := (valid_words h hd).2
  have hv := h
  obtain ⟨a, k, i, lv, s, w, d⟩ := t
  simp only at hw hv hd ⊢
  have num : ∀ n : Int, 0 ≤ n → n ≤ 999999999 → numV (digI n) 0 999999999 = n := fun n h0 h1 => (num_digI h0 h1 h0 h1).1
  have key : (cand (lineW a k i lv s w d) k = ⟨a, k, i, lv, s, w, d⟩ ∧ (k = 6 ∨ k = 7 ∨ 4 ≤ (lineW a k i lv s w d).length)) → 3 ≤ (lineW a k i lv s w d).length → (lineW a k i lv s w d).length ≤ 5 → 1 ≤ k → k ≤ 7 →
      3 ≤ (wordsF (Tl.mk a k i lv s w d).line).length ∧ (wordsF (Tl.mk a k i lv s w d).line).length ≤ 5 ∧ hitB (Tl.mk a k i lv s w d).line k = true ∧ 1 ≤ k ∧ k ≤ 7 := by
    rintro ⟨h1, h2⟩ h3 h4 h5 h6
    rw [hw]
    refine ⟨h3, h4, ?_, h5, h6⟩
    unfold hitB
    rw [hw, h1, h]
    simp [h2]
  simp only [validB, Bool.and_eq_true, inB3_iff] at hv
  obtain ⟨ha, hv⟩ := hv
  have na := num a ha.1 ha.2
  by_cases k1 : k = 1
  · subst k1
    rw [if_pos rfl] at hv
    simp only [namedB, Bool.and_eq_true, inB3_iff, decide_eq_true_eq] at hv
    obtain ⟨⟨hi, hn⟩, hs, rfl, rfl⟩ := hv
    have ni := num i hi.1 hi.2
    have ns := num s (by omega) (by omega)
    exact key ⟨by simp [cand, lineW, lastW, na, ni, ns], by simp [lineW]⟩ (by simp [lineW]) (by simp [lineW]) (by decide) (by decide)
  rw [if_neg k1] at hv
  by_cases k2 : k = 2
  · subst k2
    rw [if_pos rfl] at hv
    simp only [namedB, Bool.and_eq_true, inB3_iff, decide_eq_true_eq] at hv
    obtain ⟨⟨hi, hn⟩, rfl, hs, rfl⟩ := hv
    have ni := num i hi.1 hi.2
    have ns := num w (by omega) (by omega)
    exact key ⟨by simp [cand, lineW, lastW, na, ni, ns], by simp [lineW]⟩ (by simp [lineW]) (by simp [lineW]) (by decide) (by decide)
  rw [if_neg k2] at hv
  by_cases k3 : k = 3 ∨ k = 4 ∨ k = 5
  · rw [if_pos k3] at hv
    simp only [namedB, Bool.and_eq_true, inB3_iff, decide_eq_true_eq] at hv
    obtain ⟨⟨hi, hn⟩, rfl, rfl, rfl⟩ := hv
    have ni := num i hi.1 hi.2
    have k6 : k ≠ 6 := by omega
    have k7 : k ≠ 7 := by omega
    exact key ⟨by simp [cand, lineW, lastW, na, ni, k1, k2, k6, k7], by simp [lineW, k1, k2, k6, k7]⟩ (by simp [lineW, k1, k2, k6, k7]) (by simp [lineW, k1, k2, k6, k7]) (by omega) (by omega)
  rw [if_neg k3] at hv
  by_cases k6 : k = 6
  · subst k6
    rw [if_pos rfl] at hv
    simp only [bareB, Bool.and_eq_true, inB3_iff, decide_eq_true_eq] at hv
    obtain ⟨⟨rfl, rfl, rfl⟩, hw2, rfl⟩ := hv
    have ns := num w (by omega) (by omega)
    exact key ⟨by simp [cand, lineW, lastW, na, ns], by simp [lineW]⟩ (by simp [lineW]) (by simp [lineW]) (by decide) (by decide)
  rw [if_neg k6] at hv
  by_cases k7 : k = 7
  · subst k7
    rw [if_pos rfl] at hv
    simp only [bareB, Bool.and_eq_true, decide_eq_true_eq] at hv
    obtain ⟨⟨rfl, rfl, rfl⟩, rfl⟩ := hv
    have u2 : unhexV (hexI d) = d := (unhex_hex hd.1 hd.2).2
    exact key ⟨by simp [cand, lineW, na, u2], by simp [lineW]⟩ (by simp [lineW]) (by simp [lineW]) (by decide) (by decide)
  rw [if_neg k7] at hv
  cases hv
theorem no_hit {s : List UInt8} (h : ((wordsF s).length < 3 ∨ 5 < (wordsF s).length) ∨ ∀ k : Nat, 1 ≤ k → k ≤ 7 → hitB s k = false) : readT s = zeroT ∧ readE s = 2 := by
  have : okR s = false := by
    cases hok : okR s
    · rfl
    · exfalso
      obtain ⟨g1, g2, g3⟩ := read_valid hok
      obtain ⟨f1, f2, f3, f4, f5⟩ := valid_hit g1 g2
      rw [g3] at f1 f2 f3
      rcases h with h | h
      · omega
      · have := h (readT s).k.toNat (by omega) (by omega)
        rw [Int.toNat_of_nonneg (by omega), f3] at this
        cases this
  unfold readT readE
  rw [this]
  exact ⟨rfl, rfl⟩
end Go.Proofs.YtlcgjeafmbbipaaDoor

/- The reference reads. -/
namespace Go.Proofs.YtlcgjeafmbbipaaDoor
open Go Go.Proofs Go.Ua Go.Extern
set_option linter.unusedVariables false
set_option linter.unusedSimpArgs false
set_option maxRecDepth 10000

def le4 (s : List UInt8) : Bool := decide (s.length ≤ 8192)
set_option maxHeartbeats 1000000 in
theorem RefRead_spec (s : List UInt8) (hs : le4 s = true) : ESpec Tryd.prog 16 [.d (.s (.str s))] (fun x => x = .tup [.d (readT s).dat, .d (.s (.int .i64 (readE s)))]) := by
  obtain ⟨uRefWords, huRefWords⟩ : ∃ u : List UInt8 → Bool, u = le32 := ⟨_, rfl⟩
  obtain ⟨uRefWords1, huRefWords1⟩ : ∃ u : List UInt8 → List Dat, u = fun w => strDs (wordsF w) := ⟨_, rfl⟩
  obtain ⟨uRefNumber, huRefNumber⟩ : ∃ u : List UInt8 → Int → Int → Int, u = numV := ⟨_, rfl⟩
  obtain ⟨uRefNumber1, huRefNumber1⟩ : ∃ u : List UInt8 → Int → Int → Bool, u = numB := ⟨_, rfl⟩
  obtain ⟨uRefUnhex, huRefUnhex⟩ : ∃ u : List UInt8 → Int, u = unhexV := ⟨_, rfl⟩
  obtain ⟨uRefUnhex1, huRefUnhex1⟩ : ∃ u : List UInt8 → Bool, u = unhexB := ⟨_, rfl⟩
  obtain ⟨uRefWrite, huRefWrite⟩ : ∃ u : List UInt8 → Bool, u = lv3 := ⟨_, rfl⟩
  obtain ⟨uRefWrite1, huRefWrite1⟩ : ∃ u : Int → Int → Int → List UInt8 → Int → Int → Int → List UInt8, u = fun a k i lv s w d => refS ⟨a, k, i, lv, s, w, d⟩ := ⟨_, rfl⟩
  obtain ⟨uRefWrite2, huRefWrite2⟩ : ∃ u : Int → Int → Int → List UInt8 → Int → Int → Int → Int, u = fun a k i lv s w d => refE ⟨a, k, i, lv, s, w, d⟩ := ⟨_, rfl⟩
  have hG : TblOK Tryd.prog [(26, .p (φRefWords uRefWords uRefWords1)), (27, .p (φRefNumber uRefNumber uRefNumber1)), (28, .p (φRefUnhex uRefUnhex uRefUnhex1)), (29, .p (φRefWrite uRefWrite uRefWrite1 uRefWrite2))] := ⟨(by rw [huRefWords, huRefWords1]; exact φRefWords_ok), (by rw [huRefNumber, huRefNumber1]; exact φRefNumber_ok), (by rw [huRefUnhex, huRefUnhex1]; exact φRefUnhex_ok), (by rw [huRefWrite, huRefWrite1, huRefWrite2]; exact φRefWrite_ok), trivial⟩
  have hs' : s.length ≤ 8192 := of_decide_eq_true hs
  obtain ⟨Z, hZ⟩ : ∃ z, z = readT s := ⟨_, rfl⟩
  obtain ⟨E, hE⟩ : ∃ z, z = readE s := ⟨_, rfl⟩
  obtain ⟨ws, hws⟩ : ∃ z, z = wordsF s := ⟨_, rfl⟩
  have none : ((ws.length < 3 ∨ 5 < ws.length) ∨ ∀ k : Nat, 1 ≤ k → k ≤ 7 → hitB s k = false) → Z = zeroT ∧ E = 2 := fun h => by rw [hZ, hE]; rw [hws] at h; exact no_hit h
  have hit : ∀ k : Nat, hitB s k = true → Z = cand ws k ∧ E = 0 := fun k h => by rw [hZ, hE, hws]; exact hit_read h
  have wle : ∀ p, p ∈ ws → p.length ≤ 8192 := fun p hp => Nat.le_trans (words_le (by rw [hws] at hp; exact hp)) hs'
  rw [← hZ, ← hE]
  have q0 : uRefWords s = true := by subst huRefWords huRefWords1 huRefNumber huRefNumber1 huRefUnhex huRefUnhex1 huRefWrite huRefWrite1 huRefWrite2; exact decide_eq_true (by omega)
  obtain ⟨es, hes⟩ : ∃ z, z = uRefWords1 s := ⟨_, rfl⟩
  have hsd : es = strDs ws := by rw [hes, hws]; subst huRefWords huRefWords1 huRefNumber huRefNumber1 huRefUnhex huRefUnhex1 huRefWrite huRefWrite1 huRefWrite2; rfl
  have hel : es.length = ws.length := by rw [hsd]; simp [strDs]
  obtain ⟨w0, hw0⟩ : ∃ z, z = ws.getD 0 [] := ⟨_, rfl⟩
  obtain ⟨w2, hw2⟩ : ∃ z, z = ws.getD 2 [] := ⟨_, rfl⟩
  obtain ⟨w3, hw3⟩ : ∃ z, z = ws.getD 3 [] := ⟨_, rfl⟩
  obtain ⟨lw, hlw⟩ : ∃ z, z = lastW ws := ⟨_, rfl⟩
  refine ESpec.enter Tryd.func16 (by kernel_rfl) rfl (Nat.le_of_ble_eq_true rfl) fun hok cx hnt hfr => ?_
  obtain ⟨F, hF⟩ := real_ex
  refine AK.runT hF tabOK hmix hnt hfr false _ hG ?_
  conv => arg 4; cbv
  have s0 : F .strA es 0 0 = w0 := by rw [hsd, hw0]; exact t_strG hF ws 0
  have s2 : F .strA es 2 0 = w2 := by rw [hsd, hw2]; exact t_strG hF ws 2
  have s3 : F .strA es 3 0 = w3 := by rw [hsd, hw3]; exact t_strG hF ws 3
  have n0 : ∀ j : Nat, j < ws.length → F .hasD es (j : Int) [.str] = true := fun j hj => by rw [hsd]; exact t_hasG hF hj
  rw [← hes, s0]
  refine AKt.need q0 fun _ => ?_
  refine AKt.node (fun hb => ?_) (fun hb => ?_)
  · have h3 : ws.length < 3 := by simp only [hF, f_ltI, f_leI, f_eqI, f_eqS, f_eqB, f_not, f_andB, f_orB, f_lenS, f_lenD, f_hasS, f_atS, f_hasC, f_subS, f_hasCat, f_app, f_wrap, f_add, f_sub, f_mul, f_appD, f_fits, f_hasV, f_subV, decide_eq_true_eq, decide_eq_false_iff_not, beq_iff_eq, beq_eq_false_iff_ne, Bool.and_eq_true, Bool.and_eq_false_iff, Bool.not_eq_true, Bool.not_eq_false, Bool.not_eq_eq_eq_not, Bool.not_true, Bool.not_false] at hb; omega
    obtain ⟨g1, g2⟩ := none (.inl (.inl h3))
    repeat' (first | with_reducible refine AKt.have ?_ | with_reducible refine AKt.tt ?_ | with_reducible refine AKt.ff ?_ | with_reducible refine AKt.yes (by assumption) ?_ | with_reducible refine AKt.no (by assumption) ?_ | with_reducible refine AKt.node (fun hb => ?_) (fun hb => ?_) | with_reducible refine AKt.need ?_ (fun hb => ?_) | with_reducible refine AKt.leaf ?_ | ((with_reducible show _ = true); assumption))
    refine AKp.doneE tabOK hfr (by rfl) ?_
    show _ = _
    conv => lhs; cbv
    rw [g1, g2]
    rfl
  have h3 : ¬ ws.length < 3 := by simp only [hF, f_ltI, f_leI, f_eqI, f_eqS, f_eqB, f_not, f_andB, f_orB, f_lenS, f_lenD, f_hasS, f_atS, f_hasC, f_subS, f_hasCat, f_app, f_wrap, f_add, f_sub, f_mul, f_appD, f_fits, f_hasV, f_subV, decide_eq_true_eq, decide_eq_false_iff_not, beq_iff_eq, beq_eq_false_iff_ne, Bool.and_eq_true, Bool.and_eq_false_iff, Bool.not_eq_true, Bool.not_eq_false, Bool.not_eq_eq_eq_not, Bool.not_true, Bool.not_false] at hb; omega
  refine AKt.node (fun hb2 => ?_) (fun hb2 => ?_)
  · have h5 : 5 < ws.length := by simp only [hF, f_ltI, f_leI, f_eqI, f_eqS, f_eqB, f_not, f_andB, f_orB, f_lenS, f_lenD, f_hasS, f_atS, f_hasC, f_subS, f_hasCat, f_app, f_wrap, f_add, f_sub, f_mul, f_appD, f_fits, f_hasV, f_subV, decide_eq_true_eq, decide_eq_false_iff_not, beq_iff_eq, beq_eq_false_iff_ne, Bool.and_eq_true, Bool.and_eq_false_iff, Bool.not_eq_true, Bool.not_eq_false, Bool.not_eq_eq_eq_not, Bool.not_true, Bool.not_false] at hb2; omega
    obtain ⟨g1, g2⟩ := none (.inl (.inr h5))
    repeat' (first | with_reducible refine AKt.have ?_ | with_reducible refine AKt.tt ?_ | with_reducible refine AKt.ff ?_ | with_reducible refine AKt.yes (by assumption) ?_ | with_reducible refine AKt.no (by assumption) ?_ | with_reducible refine AKt.node (fun hb => ?_) (fun hb => ?_) | with_reducible refine AKt.need ?_ (fun hb => ?_) | with_reducible refine AKt.leaf ?_ | ((with_reducible show _ = true); assumption))
    refine AKp.doneE tabOK hfr (by rfl) ?_
    show _ = _
    conv => lhs; cbv
    rw [g1, g2]
    rfl
  have h5 : ¬ 5 < ws.length := by simp only [hF, f_ltI, f_leI, f_eqI, f_eqS, f_eqB, f_not, f_andB, f_orB, f_lenS, f_lenD, f_hasS, f_atS, f_hasC, f_subS, f_hasCat, f_app, f_wrap, f_add, f_sub, f_mul, f_appD, f_fits, f_hasV, f_subV, decide_eq_true_eq, decide_eq_false_iff_not, beq_iff_eq, beq_eq_false_iff_ne, Bool.and_eq_true, Bool.and_eq_false_iff, Bool.not_eq_true, Bool.not_eq_false, Bool.not_eq_eq_eq_not, Bool.not_true, Bool.not_false] at hb2; omega
  have k0 : F .hasD es 0 [.str] = true := n0 0 (by omega)
  have k2 : F .hasD es 2 [.str] = true := n0 2 (by omega)
  obtain ⟨at0, hat0⟩ : ∃ z, z = uRefNumber w0 0 999999999 := ⟨_, rfl⟩
  rw [← hat0]
  obtain ⟨li, hli⟩ : ∃ z : Int, z = ((ws.length - 1 : Nat) : Int) := ⟨_, rfl⟩
  have hlast : F .wrap .i64 (F .sub (F .lenD es) 1) = li := by
    rw [hli, hF, f_lenD]
    show IntKind.i64.wrap ((es.length : Int) - 1) = _
    rw [w_i64 (by omega) (by omega)]
    omega
  have sl : F .strA es li 0 = lw := by rw [hli, hlw, hsd]; exact t_strG hF ws _
  have kl : F .hasD es li [.str] = true := by rw [hli]; exact n0 _ (by omega)
  have q3 : uRefWrite w3 = true := by subst huRefWords huRefWords1 huRefNumber huRefNumber1 huRefUnhex huRefUnhex1 huRefWrite huRefWrite1 huRefWrite2; exact decide_eq_true (by rw [hw3]; exact Nat.le_trans (getD_le wle) (by decide))
  have qn : uRefWrite [] = true := by subst huRefWords huRefWords1 huRefNumber huRefNumber1 huRefUnhex huRefUnhex1 huRefWrite huRefWrite1 huRefWrite2; rfl
  repeat' (first | with_reducible refine AKt.have ?_ | with_reducible refine AKt.tt ?_ | with_reducible refine AKt.ff ?_ | with_reducible refine AKt.yes (by assumption) ?_ | with_reducible refine AKt.no (by assumption) ?_ | with_reducible refine AKt.node (fun hb => ?_) (fun hb => ?_) | with_reducible refine AKt.need ?_ (fun hb => ?_) | with_reducible refine AKt.leaf ?_ | ((with_reducible show _ = true); assumption))
  refine AKp.enterLoop 8 ?_
  conv => arg 7; cbv
  refine AKl.invT hF tabOK hmix hnt hfr false _ hG (fun n vs hs => ∃ (k : Nat) (kv : Int), k + n = 8 ∧ 1 ≤ k ∧ kv = k ∧ (∀ j : Nat, 1 ≤ j → j < k → hitB s j = false) ∧ vs = [(7, .d (.s (.int .i64 kv)))] ∧ hs = [(0, .cs 37 [.d (.s (.int .i64 0)), .d (.s (.int .i64 0)), .d (.s (.int .i64 0)), .d (.s (.str [])), .d (.s (.int .i64 0)), .d (.s (.int .i64 0)), .d (.s (.int .u64 0))])]) 7 ⟨1, _, by omega, by omega, rfl, fun j h1 h2 => by omega, rfl, rfl⟩ (by repeat (first | exact True.intro | refine ⟨⟨rfl, rfl⟩, ?_⟩)) (by repeat (first | exact True.intro | refine ⟨⟨rfl, rfl, rfl⟩, ?_⟩)) ?_
  rintro J n vs hs hJ ⟨k, kv, hk, hk1, hkv, hno, rfl, rfl⟩
  conv => arg 4; cbv
  rw [hlast, sl, s2, s3]
  obtain ⟨lwv, hlwv⟩ : ∃ z, z = uRefNumber lw 0 999999999 := ⟨_, rfl⟩
  rw [← hlwv]
  have hhit : ∀ t, cand ws kv = t → (kv = 6 ∨ kv = 7 ∨ 4 ≤ ws.length) → (hitB s kv = (decide (uRefWrite2 t.a t.k t.i t.lv t.s t.w t.d = 0) && decide (uRefWrite1 t.a t.k t.i t.lv t.s t.w t.d = s))) ∧ (hitB s kv = true → Z = t ∧ E = 0) := by
    intro t ht hc
    refine ⟨?_, fun h => by rw [hkv] at h ht; rw [← ht]; exact hit k h⟩
    unfold hitB
    rw [← hws, ht]
    have e : (decide (kv = 6) || (decide (kv = 7) || decide (4 ≤ ws.length))) = true := by simpa using hc
    rw [e]
    subst huRefWords huRefWords1 huRefNumber huRefNumber1 huRefUnhex huRefUnhex1 huRefWrite huRefWrite1 huRefWrite2
    show _ = (decide (refE t = 0) && decide (refS t = s))
    unfold refE refS
    cases validB t <;> simp
  have ext : hitB s kv = false → ∀ j : Nat, 1 ≤ j → j < k + 1 → hitB s j = false := fun h j h1 h2 => by
    by_cases e : j = k
    · rw [e, ← hkv]; exact h
    · exact hno j h1 (by omega)
  have c6 : kv = 6 → cand ws kv = ⟨at0, kv, 0, [], 0, lwv, 0⟩ := fun h => by rw [cand, if_pos h, ← hw0, ← hlw, hat0, hlwv]; subst huRefWords huRefWords1 huRefNumber huRefNumber1 huRefUnhex huRefUnhex1 huRefWrite huRefWrite1 huRefWrite2; rfl
  have c7 : kv = 7 → cand ws kv = ⟨at0, kv, 0, [], 0, 0, uRefUnhex w2⟩ := fun h => by rw [cand, if_neg (by omega), if_pos h, ← hw0, ← hw2, hat0]; subst huRefWords huRefWords1 huRefNumber huRefNumber1 huRefUnhex huRefUnhex1 huRefWrite huRefWrite1 huRefWrite2; rfl
  have cd : ¬ kv = 6 → ¬ kv = 7 → cand ws kv = ⟨at0, kv, uRefNumber w2 0 999999999, w3, if kv = 1 then lwv else 0, if kv = 2 then lwv else 0, 0⟩ := fun h h' => by rw [cand, if_neg h, if_neg h', ← hw0, ← hw2, ← hw3, ← hlw, hat0, hlwv]; subst huRefWords huRefWords1 huRefNumber huRefNumber1 huRefUnhex huRefUnhex1 huRefWrite huRefWrite1 huRefWrite2; rfl
  have few : ¬ kv = 6 → ¬ kv = 7 → ws.length < 4 → hitB s kv = false := fun h1 h2 h3 => by
    unfold hitB
    rw [← hws]
    simp [h1, h2, Nat.not_le.2 h3]
  refine AKt.node (fun hb1 => ?_) (fun hb1 => ?_)
  rotate_left
  · have hgt : ¬ k ≤ 7 := by simp only [hF, f_ltI, f_leI, f_eqI, f_eqS, f_eqB, f_not, f_andB, f_orB, f_lenS, f_lenD, f_hasS, f_atS, f_hasC, f_subS, f_hasCat, f_app, f_wrap, f_add, f_sub, f_mul, f_appD, f_fits, f_hasV, f_subV, decide_eq_true_eq, decide_eq_false_iff_not, beq_iff_eq, beq_eq_false_iff_ne, Bool.and_eq_true, Bool.and_eq_false_iff, Bool.not_eq_true, Bool.not_eq_false, Bool.not_eq_eq_eq_not, Bool.not_true, Bool.not_false] at hb1; omega
    obtain ⟨g1, g2⟩ := none (.inr fun j h1 h2 => hno j h1 (by omega))
    repeat' (first | with_reducible refine AKt.have ?_ | with_reducible refine AKt.tt ?_ | with_reducible refine AKt.ff ?_ | with_reducible refine AKt.yes (by assumption) ?_ | with_reducible refine AKt.no (by assumption) ?_ | with_reducible refine AKt.node (fun hb => ?_) (fun hb => ?_) | with_reducible refine AKt.need ?_ (fun hb => ?_) | with_reducible refine AKt.leaf ?_ | ((with_reducible show _ = true); assumption))
    refine AKp.doneE tabOK hfr (by rfl) ?_
    show _ = _
    conv => lhs; cbv
    rw [g1, g2]
    rfl
  have hle : k ≤ 7 := by simp only [hF, f_ltI, f_leI, f_eqI, f_eqS, f_eqB, f_not, f_andB, f_orB, f_lenS, f_lenD, f_hasS, f_atS, f_hasC, f_subS, f_hasCat, f_app, f_wrap, f_add, f_sub, f_mul, f_appD, f_fits, f_hasV, f_subV, decide_eq_true_eq, decide_eq_false_iff_not, beq_iff_eq, beq_eq_false_iff_ne, Bool.and_eq_true, Bool.and_eq_false_iff, Bool.not_eq_true, Bool.not_eq_false, Bool.not_eq_eq_eq_not, Bool.not_true, Bool.not_false] at hb1; omega
  repeat' (first | with_reducible refine AKt.have ?_ | with_reducible refine AKt.tt ?_ | with_reducible refine AKt.ff ?_ | with_reducible refine AKt.yes (by assumption) ?_ | with_reducible refine AKt.no (by assumption) ?_ | with_reducible refine AKt.node (fun hb => ?_) (fun hb => ?_) | with_reducible refine AKt.need ?_ (fun hb => ?_) | with_reducible refine AKt.leaf ?_ | ((with_reducible show _ = true); assumption))
  all_goals first
    | (refine n0 3 ?_
       rw [← hel]
       clear hJ hhit
       simp only [hF, f_ltI, f_leI, f_eqI, f_eqS, f_eqB, f_not, f_andB, f_orB, f_lenS, f_lenD, f_hasS, f_atS, f_hasC, f_subS, f_hasCat, f_app, f_wrap, f_add, f_sub, f_mul, f_appD, f_fits, f_hasV, f_subV, decide_eq_true_eq, decide_eq_false_iff_not, beq_iff_eq, beq_eq_false_iff_ne, Bool.and_eq_true, Bool.and_eq_false_iff, Bool.not_eq_true, Bool.not_eq_false, Bool.not_eq_eq_eq_not, Bool.not_true, Bool.not_false] at *
       omega)
    | (refine AKp.again _ hfr (by repeat (first | exact True.intro | refine ⟨⟨rfl, rfl⟩, ?_⟩)) (by repeat (first | exact True.intro | refine ⟨⟨rfl, rfl, rfl⟩, ?_⟩)) (hJ (n - 1) _ _ (by omega) ⟨k + 1, _, by omega, by omega, inc_i hF hkv (by omega), ext ?_, rfl, rfl⟩)
       clear hJ ext none hit hno k0 k2 s0 s2 s3 sl kl q0 q3 qn hG hok hlast hes hsd hws hw0 hw2 hw3 hlw hat0 hlwv huRefWords huRefWords1 huRefNumber huRefNumber1 huRefUnhex huRefUnhex1 huRefWrite huRefWrite1 huRefWrite2 hZ hE wle n0 hs hs' hkv
       rw [← hel] at hhit few
       simp only [hF, f_ltI, f_leI, f_eqI, f_eqS, f_eqB, f_not, f_andB, f_orB, f_lenS, f_lenD, f_hasS, f_atS, f_hasC, f_subS, f_hasCat, f_app, f_wrap, f_add, f_sub, f_mul, f_appD, f_fits, f_hasV, f_subV, decide_eq_true_eq, decide_eq_false_iff_not, beq_iff_eq, beq_eq_false_iff_ne, Bool.and_eq_true, Bool.and_eq_false_iff, Bool.not_eq_true, Bool.not_eq_false, Bool.not_eq_eq_eq_not, Bool.not_true, Bool.not_false] at *
       grind)
    | (refine AKp.doneE tabOK hfr (by rfl) ?_
       show _ = _
       conv => lhs; cbv
       clear hJ ext none hit hno k0 k2 s0 s2 s3 sl kl q0 q3 qn hG hok hlast hes hsd hws hw0 hw2 hw3 hlw hat0 hlwv huRefWords huRefWords1 huRefNumber huRefNumber1 huRefUnhex huRefUnhex1 huRefWrite huRefWrite1 huRefWrite2 hZ hE wle n0 hs hs' hkv
       rw [← hel] at hhit few
       simp only [hF, f_ltI, f_leI, f_eqI, f_eqS, f_eqB, f_not, f_andB, f_orB, f_lenS, f_lenD, f_hasS, f_atS, f_hasC, f_subS, f_hasCat, f_app, f_wrap, f_add, f_sub, f_mul, f_appD, f_fits, f_hasV, f_subV, decide_eq_true_eq, decide_eq_false_iff_not, beq_iff_eq, beq_eq_false_iff_ne, Bool.and_eq_true, Bool.and_eq_false_iff, Bool.not_eq_true, Bool.not_eq_false, Bool.not_eq_eq_eq_not, Bool.not_true, Bool.not_false] at *
       grind [Tl.dat])
def φRefRead (p : List UInt8 → Bool) (ua uk ui : List UInt8 → Int) (ul : List UInt8 → List UInt8) (us uw ud ue : List UInt8 → Int) : List AV → Option (Bool × AV)
  | [.d (.s (.str s))] => some (p s, .tup [.d (.agg [.s (.int .i64 (ua s)), .s (.int .i64 (uk s)), .s (.int .i64 (ui s)), .s (.str (ul s)), .s (.int .i64 (us s)), .s (.int .i64 (uw s)), .s (.int .u64 (ud s))]), .d (.s (.int .i64 (ue s)))])
  | _ => none
theorem φRefRead_ok : SpOK Tryd.prog 16 (φRefRead (le4) (fun s => (readT s).a) (fun s => (readT s).k) (fun s => (readT s).i) (fun s => (readT s).lv) (fun s => (readT s).s) (fun s => (readT s).w) (fun s => (readT s).d) (readE)) := by
  intro xs b x h hb
  unfold φRefRead at h
  split at h
  · simp only [Option.some.injEq, Prod.mk.injEq] at h
    obtain ⟨rfl, rfl⟩ := h
    exact RefRead_spec _ hb
  · cases h
end Go.Proofs.YtlcgjeafmbbipaaDoor

/- What a line of a trace does to the book; a trace is looked at. -/
namespace Go.Proofs.YtlcgjeafmbbipaaDoor
open Go Go.Proofs Go.Ua Go.Extern
set_option linter.unusedVariables false
set_option linter.unusedSimpArgs false
set_option maxRecDepth 10000

/-- What is noted of what is told; none: that can't be. -/
def noteO (b : List En) (t : Tl) : Option (List En) :=
  if t.k = 1 then (if begE b ⟨t.i, 2, t.lv⟩ = 0 then some (b ++ [⟨t.i, 2, t.lv⟩]) else none)
  else if t.k = 2 ∨ t.k = 3 ∨ t.k = 4 then (if begE b ⟨t.i, 3, t.lv⟩ = 0 then some (b ++ [⟨t.i, 3, t.lv⟩]) else none)
  else if t.k = 5 then (if hasN b t.i = true ∧ (getN b t.i).lv = t.lv ∧ movE b t.i 3 = 0 then some (movV b t.i 3) else none)
  else some b
def noteB (b : List En) (t : Tl) : Bool := (noteO b t).isSome
def noteV (b : List En) (t : Tl) : List En := (noteO b t).getD []

theorem note_b (l : List En) (t : Tl) (x : En) (h : noteO l t = if begE l x = 0 then some (l ++ [x]) else none) : noteV l t = begV l x ∧ noteB l t = decide (begE l x = 0) := by
  rw [noteV, noteB, h, begV]
  by_cases e : begE l x = 0 <;> simp [e]
theorem note_n (l : List En) (t : Tl) (h : noteO l t = none) : noteV l t = [] ∧ noteB l t = false := by
  rw [noteV, noteB, h]
  exact ⟨rfl, rfl⟩
theorem note_s (l l' : List En) (t : Tl) (h : noteO l t = some l') : noteV l t = l' ∧ noteB l t = true := by
  rw [noteV, noteB, h]
  exact ⟨rfl, rfl⟩

set_option maxHeartbeats 1000000 in
theorem note_spec (es : List Dat) (a k i : Int) (lv : List UInt8) (s w d : Int) (h : bkP es = true) : ESpec Tryd.prog 15 [.d (.view 3 es), .d (.agg [.s (.int .i64 a), .s (.int .i64 k), .s (.int .i64 i), .s (.str lv), .s (.int .i64 s), .s (.int .i64 w), .s (.int .u64 d)])]
    (fun x => x = .tup [.d (.view 3 (enDs (noteV (unEn es) ⟨a, k, i, lv, s, w, d⟩))), .d (.s (.bool (noteB (unEn es) ⟨a, k, i, lv, s, w, d⟩)))]) := by
  obtain ⟨uBegin, huBegin⟩ : ∃ u : List Dat → Bool, u = bkP := ⟨_, rfl⟩
  obtain ⟨uBegin1, huBegin1⟩ : ∃ u : List Dat → Int → Int → List UInt8 → List Dat, u = fun es id ph lv => enDs (begV (unEn es) ⟨id, ph, lv⟩) := ⟨_, rfl⟩
  obtain ⟨uBegin2, huBegin2⟩ : ∃ u : List Dat → Int → Int → List UInt8 → Int, u = fun es id ph lv => begE (unEn es) ⟨id, ph, lv⟩ := ⟨_, rfl⟩
  obtain ⟨uBookFind, huBookFind⟩ : ∃ u : List Dat → Bool, u = isEn := ⟨_, rfl⟩
  obtain ⟨uBookFind1, huBookFind1⟩ : ∃ u : List Dat → Int → Int, u = fun es id => (getN (unEn es) id).id := ⟨_, rfl⟩
  obtain ⟨uBookFind2, huBookFind2⟩ : ∃ u : List Dat → Int → Int, u = fun es id => (getN (unEn es) id).ph := ⟨_, rfl⟩
  obtain ⟨uBookFind3, huBookFind3⟩ : ∃ u : List Dat → Int → List UInt8, u = fun es id => (getN (unEn es) id).lv := ⟨_, rfl⟩
  obtain ⟨uBookFind4, huBookFind4⟩ : ∃ u : List Dat → Int → Bool, u = fun es id => hasN (unEn es) id := ⟨_, rfl⟩
  obtain ⟨uMove, huMove⟩ : ∃ u : List Dat → Bool, u = bkP := ⟨_, rfl⟩
  obtain ⟨uMove1, huMove1⟩ : ∃ u : List Dat → Int → Int → List Dat, u = fun es id tp => enDs (movV (unEn es) id tp) := ⟨_, rfl⟩
  obtain ⟨uMove2, huMove2⟩ : ∃ u : List Dat → Int → Int → Int, u = fun es id tp => movE (unEn es) id tp := ⟨_, rfl⟩
  have hG : TblOK Tryd.prog [(23, .p (φBegin uBegin uBegin1 uBegin2)), (24, .p (φBookFind uBookFind uBookFind1 uBookFind2 uBookFind3 uBookFind4)), (25, .p (φMove uMove uMove1 uMove2))] := ⟨(by rw [huBegin, huBegin1, huBegin2]; exact φBegin_ok), (by rw [huBookFind, huBookFind1, huBookFind2, huBookFind3, huBookFind4]; exact φBookFind_ok), (by rw [huMove, huMove1, huMove2]; exact φMove_ok), trivial⟩
  have h' := h
  simp only [bkP, Bool.and_eq_true] at h'
  obtain ⟨l, hl⟩ : ∃ l, l = unEn es := ⟨_, rfl⟩
  have hes : es = enDs l := by rw [hl, en_un h'.1]
  have q1 : uBegin es = true := by subst huBegin huBegin1 huBegin2 huBookFind huBookFind1 huBookFind2 huBookFind3 huBookFind4 huMove huMove1 huMove2; exact h
  have q2 : uBookFind es = true := by subst huBegin huBegin1 huBegin2 huBookFind huBookFind1 huBookFind2 huBookFind3 huBookFind4 huMove huMove1 huMove2; exact h'.1
  have q3 : uMove es = true := by subst huBegin huBegin1 huBegin2 huBookFind huBookFind1 huBookFind2 huBookFind3 huBookFind4 huMove huMove1 huMove2; exact h
  rw [← hl]
  obtain ⟨V, hV⟩ : ∃ z, z = enDs (noteV l ⟨a, k, i, lv, s, w, d⟩) := ⟨_, rfl⟩
  obtain ⟨B, hB⟩ : ∃ z, z = noteB l ⟨a, k, i, lv, s, w, d⟩ := ⟨_, rfl⟩
  rw [← hV, ← hB]
  refine ESpec.enter Tryd.func15 (by kernel_rfl) rfl (Nat.le_of_ble_eq_true rfl) fun hok cx hnt hfr => ?_
  obtain ⟨F, hF⟩ := real_ex
  refine AK.runT hF tabOK hmix hnt hfr false _ hG ?_
  conv => arg 4; cbv
  repeat' (first | with_reducible refine AKt.have ?_ | with_reducible refine AKt.tt ?_ | with_reducible refine AKt.ff ?_ | with_reducible refine AKt.yes (by assumption) ?_ | with_reducible refine AKt.no (by assumption) ?_ | with_reducible refine AKt.node (fun hb => ?_) (fun hb => ?_) | with_reducible refine AKt.need ?_ (fun hb => ?_) | with_reducible refine AKt.leaf ?_ | ((with_reducible show _ = true); assumption))
  all_goals
    refine AKp.doneL tabOK hfr (by rfl) ?_
  · rename_i h1
    simp only [hF, f_ltI, f_leI, f_eqI, f_eqS, f_eqB, f_not, f_andB, f_orB, f_lenS, f_lenD, f_hasS, f_atS, f_hasC, f_subS, f_hasCat, f_app, f_wrap, f_add, f_sub, f_mul, f_appD, f_fits, f_hasV, f_subV, decide_eq_true_eq, decide_eq_false_iff_not, beq_iff_eq, beq_eq_false_iff_ne, Bool.and_eq_true, Bool.and_eq_false_iff, Bool.not_eq_true, Bool.not_eq_false, Bool.not_eq_eq_eq_not, Bool.not_true, Bool.not_false] at h1
    have n := note_b l ⟨a, k, i, lv, s, w, d⟩ ⟨i, 2, lv⟩ (by rw [noteO]; exact if_pos h1)
    rw [hV, hB, n.1, n.2, huBegin1, huBegin2, hl]
    simp only [hF, f_ltI, f_leI, f_eqI, f_eqS, f_eqB, f_not, f_andB, f_orB, f_lenS, f_lenD, f_hasS, f_atS, f_hasC, f_subS, f_hasCat, f_app, f_wrap, f_add, f_sub, f_mul, f_appD, f_fits, f_hasV, f_subV, decide_eq_true_eq, decide_eq_false_iff_not, beq_iff_eq, beq_eq_false_iff_ne, Bool.and_eq_true, Bool.and_eq_false_iff, Bool.not_eq_true, Bool.not_eq_false, Bool.not_eq_eq_eq_not, Bool.not_true, Bool.not_false] at *
    exact .tup (.cons (.refl _) (.cons (.refl _) .nil))
  · rename_i h1 h2
    simp only [hF, f_ltI, f_leI, f_eqI, f_eqS, f_eqB, f_not, f_andB, f_orB, f_lenS, f_lenD, f_hasS, f_atS, f_hasC, f_subS, f_hasCat, f_app, f_wrap, f_add, f_sub, f_mul, f_appD, f_fits, f_hasV, f_subV, decide_eq_true_eq, decide_eq_false_iff_not, beq_iff_eq, beq_eq_false_iff_ne, Bool.and_eq_true, Bool.and_eq_false_iff, Bool.not_eq_true, Bool.not_eq_false, Bool.not_eq_eq_eq_not, Bool.not_true, Bool.not_false] at h1 h2
    have n := note_b l ⟨a, k, i, lv, s, w, d⟩ ⟨i, 3, lv⟩ (by rw [noteO]; exact (if_neg h1).trans (if_pos (.inl h2)))
    rw [hV, hB, n.1, n.2, huBegin1, huBegin2, hl]
    simp only [hF, f_ltI, f_leI, f_eqI, f_eqS, f_eqB, f_not, f_andB, f_orB, f_lenS, f_lenD, f_hasS, f_atS, f_hasC, f_subS, f_hasCat, f_app, f_wrap, f_add, f_sub, f_mul, f_appD, f_fits, f_hasV, f_subV, decide_eq_true_eq, decide_eq_false_iff_not, beq_iff_eq, beq_eq_false_iff_ne, Bool.and_eq_true, Bool.and_eq_false_iff, Bool.not_eq_true, Bool.not_eq_false, Bool.not_eq_eq_eq_not, Bool.not_true, Bool.not_false] at *
    exact .tup (.cons (.refl _) (.cons (.refl _) .nil))
  · rename_i h1 _ h2
    simp only [hF, f_ltI, f_leI, f_eqI, f_eqS, f_eqB, f_not, f_andB, f_orB, f_lenS, f_lenD, f_hasS, f_atS, f_hasC, f_subS, f_hasCat, f_app, f_wrap, f_add, f_sub, f_mul, f_appD, f_fits, f_hasV, f_subV, decide_eq_true_eq, decide_eq_false_iff_not, beq_iff_eq, beq_eq_false_iff_ne, Bool.and_eq_true, Bool.and_eq_false_iff, Bool.not_eq_true, Bool.not_eq_false, Bool.not_eq_eq_eq_not, Bool.not_true, Bool.not_false] at h1 h2
    have n := note_b l ⟨a, k, i, lv, s, w, d⟩ ⟨i, 3, lv⟩ (by rw [noteO]; exact (if_neg h1).trans (if_pos (.inr (.inl h2))))
    rw [hV, hB, n.1, n.2, huBegin1, huBegin2, hl]
    simp only [hF, f_ltI, f_leI, f_eqI, f_eqS, f_eqB, f_not, f_andB, f_orB, f_lenS, f_lenD, f_hasS, f_atS, f_hasC, f_subS, f_hasCat, f_app, f_wrap, f_add, f_sub, f_mul, f_appD, f_fits, f_hasV, f_subV, decide_eq_true_eq, decide_eq_false_iff_not, beq_iff_eq, beq_eq_false_iff_ne, Bool.and_eq_true, Bool.and_eq_false_iff, Bool.not_eq_true, Bool.not_eq_false, Bool.not_eq_eq_eq_not, Bool.not_true, Bool.not_false] at *
    exact .tup (.cons (.refl _) (.cons (.refl _) .nil))
  · rename_i h1 _ _ h2
    simp only [hF, f_ltI, f_leI, f_eqI, f_eqS, f_eqB, f_not, f_andB, f_orB, f_lenS, f_lenD, f_hasS, f_atS, f_hasC, f_subS, f_hasCat, f_app, f_wrap, f_add, f_sub, f_mul, f_appD, f_fits, f_hasV, f_subV, decide_eq_true_eq, decide_eq_false_iff_not, beq_iff_eq, beq_eq_false_iff_ne, Bool.and_eq_true, Bool.and_eq_false_iff, Bool.not_eq_true, Bool.not_eq_false, Bool.not_eq_eq_eq_not, Bool.not_true, Bool.not_false] at h1 h2
    have n := note_b l ⟨a, k, i, lv, s, w, d⟩ ⟨i, 3, lv⟩ (by rw [noteO]; exact (if_neg h1).trans (if_pos (.inr (.inr h2))))
    rw [hV, hB, n.1, n.2, huBegin1, huBegin2, hl]
    simp only [hF, f_ltI, f_leI, f_eqI, f_eqS, f_eqB, f_not, f_andB, f_orB, f_lenS, f_lenD, f_hasS, f_atS, f_hasC, f_subS, f_hasCat, f_app, f_wrap, f_add, f_sub, f_mul, f_appD, f_fits, f_hasV, f_subV, decide_eq_true_eq, decide_eq_false_iff_not, beq_iff_eq, beq_eq_false_iff_ne, Bool.and_eq_true, Bool.and_eq_false_iff, Bool.not_eq_true, Bool.not_eq_false, Bool.not_eq_eq_eq_not, Bool.not_true, Bool.not_false] at *
    exact .tup (.cons (.refl _) (.cons (.refl _) .nil))
  · rename_i h1 h2 h3 h4 h5 _
    have h6 := hb
    rw [huBookFind4] at h6
    rw [show (fun es id => hasN (unEn es) id) es i = hasN l i by rw [hl]] at h6
    simp only [hF, f_ltI, f_leI, f_eqI, f_eqS, f_eqB, f_not, f_andB, f_orB, f_lenS, f_lenD, f_hasS, f_atS, f_hasC, f_subS, f_hasCat, f_app, f_wrap, f_add, f_sub, f_mul, f_appD, f_fits, f_hasV, f_subV, decide_eq_true_eq, decide_eq_false_iff_not, beq_iff_eq, beq_eq_false_iff_ne, Bool.and_eq_true, Bool.and_eq_false_iff, Bool.not_eq_true, Bool.not_eq_false, Bool.not_eq_eq_eq_not, Bool.not_true, Bool.not_false] at h1 h2 h3 h4 h5 h6
    have n := note_n l ⟨a, k, i, lv, s, w, d⟩ (by rw [noteO]; exact (if_neg h1).trans ((if_neg (by rintro (h | h | h) <;> contradiction)).trans ((if_pos h5).trans (if_neg fun h => by rw [h.1] at h6; cases h6))))
    rw [hV, hB, n.1, n.2]
    exact .tup (.cons (.d (.nil _)) (.cons (.refl _) .nil))
  · rename_i h1 h2 h3 h4 h5 _ h6
    have h7 := hb
    rw [huBookFind3] at h7
    rw [show (fun es id => (getN (unEn es) id).lv) es i = (getN l i).lv by rw [hl]] at h7
    simp only [hF, f_ltI, f_leI, f_eqI, f_eqS, f_eqB, f_not, f_andB, f_orB, f_lenS, f_lenD, f_hasS, f_atS, f_hasC, f_subS, f_hasCat, f_app, f_wrap, f_add, f_sub, f_mul, f_appD, f_fits, f_hasV, f_subV, decide_eq_true_eq, decide_eq_false_iff_not, beq_iff_eq, beq_eq_false_iff_ne, Bool.and_eq_true, Bool.and_eq_false_iff, Bool.not_eq_true, Bool.not_eq_false, Bool.not_eq_eq_eq_not, Bool.not_true, Bool.not_false] at h1 h2 h3 h4 h5 h7
    have n := note_n l ⟨a, k, i, lv, s, w, d⟩ (by rw [noteO]; exact (if_neg h1).trans ((if_neg (by rintro (h | h | h) <;> contradiction)).trans ((if_pos h5).trans (if_neg fun h => h7 h.2.1))))
    rw [hV, hB, n.1, n.2]
    exact .tup (.cons (.d (.nil _)) (.cons (.refl _) .nil))
  · rename_i h1 h2 h3 h4 h5 _ h6 h7
    rw [huBookFind4] at h6
    rw [show (fun es id => hasN (unEn es) id) es i = hasN l i by rw [hl]] at h6
    rw [huBookFind3] at h7
    rw [show (fun es id => (getN (unEn es) id).lv) es i = (getN l i).lv by rw [hl]] at h7
    simp only [hF, f_ltI, f_leI, f_eqI, f_eqS, f_eqB, f_not, f_andB, f_orB, f_lenS, f_lenD, f_hasS, f_atS, f_hasC, f_subS, f_hasCat, f_app, f_wrap, f_add, f_sub, f_mul, f_appD, f_fits, f_hasV, f_subV, decide_eq_true_eq, decide_eq_false_iff_not, beq_iff_eq, beq_eq_false_iff_ne, Bool.and_eq_true, Bool.and_eq_false_iff, Bool.not_eq_true, Bool.not_eq_false, Bool.not_eq_eq_eq_not, Bool.not_true, Bool.not_false] at h1 h2 h3 h4 h5 h6 h7
    have e : noteO l ⟨a, k, i, lv, s, w, d⟩ = if movE l i 3 = 0 then some (movV l i 3) else none := by
      rw [noteO]
      refine (if_neg h1).trans ((if_neg (by rintro (h | h | h) <;> contradiction)).trans ((if_pos h5).trans ?_))
      by_cases c : movE l i 3 = 0
      · rw [if_pos c]; exact if_pos ⟨h6, h7, c⟩
      · rw [if_neg c]; exact if_neg fun h => c h.2.2
    have n : noteV l ⟨a, k, i, lv, s, w, d⟩ = movV l i 3 ∧ noteB l ⟨a, k, i, lv, s, w, d⟩ = decide (movE l i 3 = 0) := by
      rw [noteV, noteB, e]
      by_cases c : movE l i 3 = 0
      · rw [if_pos c]; exact ⟨rfl, (decide_eq_true c).symm⟩
      · rw [if_neg c]; exact ⟨by rw [movV, if_neg c]; rfl, (decide_eq_false c).symm⟩
    rw [hV, hB, n.1, n.2, huMove1, huMove2, hl]
    simp only [hF, f_ltI, f_leI, f_eqI, f_eqS, f_eqB, f_not, f_andB, f_orB, f_lenS, f_lenD, f_hasS, f_atS, f_hasC, f_subS, f_hasCat, f_app, f_wrap, f_add, f_sub, f_mul, f_appD, f_fits, f_hasV, f_subV, decide_eq_true_eq, decide_eq_false_iff_not, beq_iff_eq, beq_eq_false_iff_ne, Bool.and_eq_true, Bool.and_eq_false_iff, Bool.not_eq_true, Bool.not_eq_false, Bool.not_eq_eq_eq_not, Bool.not_true, Bool.not_false] at *
    exact .tup (.cons (.refl _) (.cons (.refl _) .nil))
  · rename_i h1 h2 h3 h4
    have h5 := hb
    simp only [hF, f_ltI, f_leI, f_eqI, f_eqS, f_eqB, f_not, f_andB, f_orB, f_lenS, f_lenD, f_hasS, f_atS, f_hasC, f_subS, f_hasCat, f_app, f_wrap, f_add, f_sub, f_mul, f_appD, f_fits, f_hasV, f_subV, decide_eq_true_eq, decide_eq_false_iff_not, beq_iff_eq, beq_eq_false_iff_ne, Bool.and_eq_true, Bool.and_eq_false_iff, Bool.not_eq_true, Bool.not_eq_false, Bool.not_eq_eq_eq_not, Bool.not_true, Bool.not_false] at h1 h2 h3 h4 h5
    have n := note_s l l ⟨a, k, i, lv, s, w, d⟩ (by rw [noteO]; exact (if_neg h1).trans ((if_neg (by rintro (h | h | h) <;> contradiction)).trans (if_neg h5)))
    rw [hV, hB, n.1, n.2, ← hes]
    simp only [hF, f_ltI, f_leI, f_eqI, f_eqS, f_eqB, f_not, f_andB, f_orB, f_lenS, f_lenD, f_hasS, f_atS, f_hasC, f_subS, f_hasCat, f_app, f_wrap, f_add, f_sub, f_mul, f_appD, f_fits, f_hasV, f_subV, decide_eq_true_eq, decide_eq_false_iff_not, beq_iff_eq, beq_eq_false_iff_ne, Bool.and_eq_true, Bool.and_eq_false_iff, Bool.not_eq_true, Bool.not_eq_false, Bool.not_eq_eq_eq_not, Bool.not_true, Bool.not_false] at *
    exact .tup (.cons (.refl _) (.cons (.refl _) .nil))
def φNote (p : List Dat → Bool) (u : List Dat → Int → Int → Int → List UInt8 → Int → Int → Int → List Dat) (o : List Dat → Int → Int → Int → List UInt8 → Int → Int → Int → Bool) : List AV → Option (Bool × AV)
  | [.d (.view 3 es), .d (.agg [.s (.int .i64 a), .s (.int .i64 k), .s (.int .i64 i), .s (.str lv), .s (.int .i64 s), .s (.int .i64 w), .s (.int .u64 d)])] => some (p es, .tup [.d (.view 3 (u es a k i lv s w d)), .d (.s (.bool (o es a k i lv s w d)))])
  | _ => none
theorem φNote_ok : SpOK Tryd.prog 15 (φNote (bkP) (fun es a k i lv s w d => enDs (noteV (unEn es) ⟨a, k, i, lv, s, w, d⟩)) (fun es a k i lv s w d => noteB (unEn es) ⟨a, k, i, lv, s, w, d⟩)) := by
  intro xs b x h hb
  unfold φNote at h
  split at h
  · simp only [Option.some.injEq, Prod.mk.injEq] at h
    obtain ⟨rfl, rfl⟩ := h
    exact note_spec _ _ _ _ _ _ _ _ hb
  · cases h
end Go.Proofs.YtlcgjeafmbbipaaDoor

/- A trace is looked at. -/
namespace Go.Proofs.YtlcgjeafmbbipaaDoor
open Go Go.Proofs Go.Ua Go.Extern
set_option linter.unusedVariables false
set_option linter.unusedSimpArgs false
set_option maxRecDepth 10000

/-- What looking at the lines tells, from the line i on. -/
def lookR : List (List UInt8) → Int → List En → Int → Int × Int
  | [], _, _, _ => (0, 0)
  | s :: ls, i, b, at_ =>
    if ¬ readE s = 0 then (i + 1, readE s)
    else if (readT s).a < at_ ∨ noteB b (readT s) = false then (i + 1, 13)
    else lookR ls (i + 1) (noteV b (readT s)) (readT s).a
def lookF (t : List UInt8) : Int × Int := if 4194304 < t.length then (0, 3) else lookR (linesF t) 0 [] 0
def leL (s : List UInt8) : Bool := decide (s.length ≤ 7000000)

theorem lines_num (s : List UInt8) : (linesF s).length ≤ s.length + 1 := by
  have h := cutF_len 10 s
  have := List.count_le_length (a := (10 : UInt8)) (l := s)
  unfold linesF
  split
  · rw [List.length_dropLast]; omega
  · omega
theorem lines_le {s x : List UInt8} (h : x ∈ linesF s) : x.length ≤ s.length := by
  unfold linesF at h
  split at h
  · exact cutF_all ((List.dropLast_sublist _).subset h)
  · exact cutF_all h
theorem begV_len (l : List En) (x : En) : (begV l x).length ≤ l.length + 1 := by
  unfold begV
  split <;> simp
theorem movV_len (l : List En) (i p : Int) : (movV l i p).length ≤ l.length + 1 := by
  unfold movV
  split <;> simp
theorem noteV_len (l : List En) (t : Tl) : (noteV l t).length ≤ l.length + 1 := by
  unfold noteV noteO
  have h1 := movV_len l t.i 3
  repeat' split
  all_goals simp
  all_goals omega

set_option maxRecDepth 10000 in
set_option maxHeartbeats 1000000 in
theorem Look_spec (s : List UInt8) (hs : leL s = true) : ESpec Tryd.prog 9 [.d (.s (.str s))] (fun x => x = .tup [.d (.s (.int .i64 (lookF s).1)), .d (.s (.int .i64 (lookF s).2))]) := by
  obtain ⟨uLines, huLines⟩ : ∃ u : List UInt8 → Bool, u = le32 := ⟨_, rfl⟩
  obtain ⟨uLines1, huLines1⟩ : ∃ u : List UInt8 → List Dat, u = fun w => strDs (linesF w) := ⟨_, rfl⟩
  obtain ⟨uRead, huRead⟩ : ∃ u : List UInt8 → Bool, u = le20 := ⟨_, rfl⟩
  obtain ⟨uRead1, huRead1⟩ : ∃ u : List UInt8 → Int, u = fun s => (readT s).a := ⟨_, rfl⟩
  obtain ⟨uRead2, huRead2⟩ : ∃ u : List UInt8 → Int, u = fun s => (readT s).k := ⟨_, rfl⟩
  obtain ⟨uRead3, huRead3⟩ : ∃ u : List UInt8 → Int, u = fun s => (readT s).i := ⟨_, rfl⟩
  obtain ⟨uRead4, huRead4⟩ : ∃ u : List UInt8 → List UInt8, u = fun s => (readT s).lv := ⟨_, rfl⟩
  obtain ⟨uRead5, huRead5⟩ : ∃ u : List UInt8 → Int, u = fun s => (readT s).s := ⟨_, rfl⟩
  obtain ⟨uRead6, huRead6⟩ : ∃ u : List UInt8 → Int, u = fun s => (readT s).w := ⟨_, rfl⟩
  obtain ⟨uRead7, huRead7⟩ : ∃ u : List UInt8 → Int, u = fun s => (readT s).d := ⟨_, rfl⟩
  obtain ⟨uRead8, huRead8⟩ : ∃ u : List UInt8 → Int, u = readE := ⟨_, rfl⟩
  obtain ⟨uNote, huNote⟩ : ∃ u : List Dat → Bool, u = bkP := ⟨_, rfl⟩
  obtain ⟨uNote1, huNote1⟩ : ∃ u : List Dat → Int → Int → Int → List UInt8 → Int → Int → Int → List Dat, u = fun es a k i lv s w d => enDs (noteV (unEn es) ⟨a, k, i, lv, s, w, d⟩) := ⟨_, rfl⟩
  obtain ⟨uNote2, huNote2⟩ : ∃ u : List Dat → Int → Int → Int → List UInt8 → Int → Int → Int → Bool, u = fun es a k i lv s w d => noteB (unEn es) ⟨a, k, i, lv, s, w, d⟩ := ⟨_, rfl⟩
  have hG : TblOK Tryd.prog [(13, .p (φLines uLines uLines1)), (14, .p (φRead uRead uRead1 uRead2 uRead3 uRead4 uRead5 uRead6 uRead7 uRead8)), (15, .p (φNote uNote uNote1 uNote2))] := ⟨(by rw [huLines, huLines1]; exact φLines_ok), (by rw [huRead, huRead1, huRead2, huRead3, huRead4, huRead5, huRead6, huRead7, huRead8]; exact φRead_ok), (by rw [huNote, huNote1, huNote2]; exact φNote_ok), trivial⟩
  have hs' : s.length ≤ 7000000 := of_decide_eq_true hs
  refine ESpec.enter Tryd.func9 (by kernel_rfl) rfl (Nat.le_of_ble_eq_true rfl) fun hok cx hnt hfr => ?_
  obtain ⟨F, hF⟩ := real_ex
  refine AK.runT hF tabOK hmix hnt hfr false _ hG ?_
  conv => arg 4; cbv
  obtain ⟨l, hl⟩ : ∃ z, z = linesF s := ⟨_, rfl⟩
  obtain ⟨es, hes⟩ : ∃ z, z = uLines1 s := ⟨_, rfl⟩
  obtain ⟨R1, hR1⟩ : ∃ z, z = (lookF s).1 := ⟨_, rfl⟩
  obtain ⟨R2, hR2⟩ : ∃ z, z = (lookF s).2 := ⟨_, rfl⟩
  rw [← hes, ← hR1, ← hR2]
  have hsd : es = strDs l := by rw [hes, hl]; subst huLines huLines1 huRead huRead1 huRead2 huRead3 huRead4 huRead5 huRead6 huRead7 huRead8 huNote huNote1 huNote2; rfl
  have hel : es.length = l.length := by rw [hsd]; simp [strDs]
  have hll : l.length ≤ s.length + 1 := by rw [hl]; exact lines_num s
  have hlc : ∀ x, x ∈ l → x.length ≤ s.length := fun x hx => lines_le (by rw [← hl]; exact hx)
  have q1 : uLines s = true := by subst huLines huLines1 huRead huRead1 huRead2 huRead3 huRead4 huRead5 huRead6 huRead7 huRead8 huNote huNote1 huNote2; exact decide_eq_true (by omega)
  refine AKt.node (fun hb => ?_) (fun hb => ?_)
  · have h4 : 4194304 < s.length := by simp only [hF, f_ltI, f_leI, f_eqI, f_eqS, f_eqB, f_not, f_andB, f_orB, f_lenS, f_lenD, f_hasS, f_atS, f_hasC, f_subS, f_hasCat, f_app, f_wrap, f_add, f_sub, f_mul, f_appD, f_fits, f_hasV, f_subV, decide_eq_true_eq, decide_eq_false_iff_not, beq_iff_eq, beq_eq_false_iff_ne, Bool.and_eq_true, Bool.and_eq_false_iff, Bool.not_eq_true, Bool.not_eq_false, Bool.not_eq_eq_eq_not, Bool.not_true, Bool.not_false] at hb; omega
    repeat' (first | with_reducible refine AKt.have ?_ | with_reducible refine AKt.tt ?_ | with_reducible refine AKt.ff ?_ | with_reducible refine AKt.yes (by assumption) ?_ | with_reducible refine AKt.no (by assumption) ?_ | with_reducible refine AKt.node (fun hb => ?_) (fun hb => ?_) | with_reducible refine AKt.need ?_ (fun hb => ?_) | with_reducible refine AKt.leaf ?_ | ((with_reducible show _ = true); assumption))
    refine AKp.doneE tabOK hfr (by rfl) ?_
    show _ = _
    simp only [tupAV]
    rw [hR1, hR2, lookF, if_pos h4]
  have h4 : ¬ 4194304 < s.length := by simp only [hF, f_ltI, f_leI, f_eqI, f_eqS, f_eqB, f_not, f_andB, f_orB, f_lenS, f_lenD, f_hasS, f_atS, f_hasC, f_subS, f_hasCat, f_app, f_wrap, f_add, f_sub, f_mul, f_appD, f_fits, f_hasV, f_subV, decide_eq_true_eq, decide_eq_false_iff_not, beq_iff_eq, beq_eq_false_iff_ne, Bool.and_eq_true, Bool.and_eq_false_iff, Bool.not_eq_true, Bool.not_eq_false, Bool.not_eq_eq_eq_not, Bool.not_true, Bool.not_false] at hb; omega
  have hR : lookR l 0 [] 0 = (R1, R2) := by rw [hR1, hR2, lookF, if_neg h4, hl]
  clear hR1 hR2
  repeat' (first | with_reducible refine AKt.have ?_ | with_reducible refine AKt.tt ?_ | with_reducible refine AKt.ff ?_ | with_reducible refine AKt.yes (by assumption) ?_ | with_reducible refine AKt.no (by assumption) ?_ | with_reducible refine AKt.node (fun hb => ?_) (fun hb => ?_) | with_reducible refine AKt.need ?_ (fun hb => ?_) | with_reducible refine AKt.leaf ?_ | ((with_reducible show _ = true); assumption))
  refine AKp.retell 4 (.view 3 []) rfl (by repeat constructor) ?_
  conv => arg 4; arg 2; cbv
  obtain ⟨nv, hnv⟩ : ∃ z, z = F .lenD es := ⟨_, rfl⟩
  rw [← hnv]
  have hnv' : nv = (l.length : Int) := by rw [hnv, hF, f_lenD, hel]
  refine AKp.enterLoop 19 ?_
  conv => arg 7; cbv
  refine AKl.invT hF tabOK hmix hnt hfr false _ hG (fun n vs hs => ∃ (i : Nat) (iv at_ : Int) (b : List En) (bd : List Dat), i + n = l.length ∧ iv = i ∧ bd = enDs b ∧ b.length ≤ i ∧ lookR (l.drop i) i b at_ = (R1, R2) ∧ vs = [(18, .d (.s (.int .i64 iv))), (5, .d (.s (.int .i64 at_))), (4, .d (.view 3 bd))] ∧ hs = []) l.length ⟨0, _, _, [], [], by omega, rfl, rfl, by simp, hR, rfl, rfl⟩ (by repeat (first | exact True.intro | refine ⟨⟨rfl, rfl⟩, ?_⟩)) (by repeat (first | exact True.intro | refine ⟨⟨rfl, rfl, rfl⟩, ?_⟩)) ?_
  rintro J n vs hs hJ ⟨i, iv, at_, b, bd, hi, hiv, hbd, hbl, hrun, rfl, rfl⟩
  conv => arg 4; cbv
  refine AKt.node (fun hb1 => ?_) (fun hb1 => ?_)
  rotate_left
  · have hge : ¬ i < l.length := by rw [hnv'] at hb1; simp only [hF, f_ltI, f_leI, f_eqI, f_eqS, f_eqB, f_not, f_andB, f_orB, f_lenS, f_lenD, f_hasS, f_atS, f_hasC, f_subS, f_hasCat, f_app, f_wrap, f_add, f_sub, f_mul, f_appD, f_fits, f_hasV, f_subV, decide_eq_true_eq, decide_eq_false_iff_not, beq_iff_eq, beq_eq_false_iff_ne, Bool.and_eq_true, Bool.and_eq_false_iff, Bool.not_eq_true, Bool.not_eq_false, Bool.not_eq_eq_eq_not, Bool.not_true, Bool.not_false] at hb1; omega
    rw [List.drop_eq_nil_of_le (by omega)] at hrun
    obtain ⟨g1, g2⟩ := Prod.mk.inj hrun
    repeat' (first | with_reducible refine AKt.have ?_ | with_reducible refine AKt.tt ?_ | with_reducible refine AKt.ff ?_ | with_reducible refine AKt.yes (by assumption) ?_ | with_reducible refine AKt.no (by assumption) ?_ | with_reducible refine AKt.node (fun hb => ?_) (fun hb => ?_) | with_reducible refine AKt.need ?_ (fun hb => ?_) | with_reducible refine AKt.leaf ?_ | ((with_reducible show _ = true); assumption))
    refine AKp.doneE tabOK hfr (by rfl) ?_
    show _ = _
    simp only [tupAV]
    rw [← g1, ← g2]
  have hlt : i < l.length := by rw [hnv'] at hb1; simp only [hF, f_ltI, f_leI, f_eqI, f_eqS, f_eqB, f_not, f_andB, f_orB, f_lenS, f_lenD, f_hasS, f_atS, f_hasC, f_subS, f_hasCat, f_app, f_wrap, f_add, f_sub, f_mul, f_appD, f_fits, f_hasV, f_subV, decide_eq_true_eq, decide_eq_false_iff_not, beq_iff_eq, beq_eq_false_iff_ne, Bool.and_eq_true, Bool.and_eq_false_iff, Bool.not_eq_true, Bool.not_eq_false, Bool.not_eq_eq_eq_not, Bool.not_true, Bool.not_false] at hb1; omega
  obtain ⟨x, hx⟩ : ∃ x, l[i]? = some x := ⟨_, List.getElem?_eq_getElem hlt⟩
  have hxl := hlc x (List.mem_of_getElem? hx)
  have e1 : F .strA es iv 0 = x := by rw [hsd, hiv, t_strG hF, List.getD_eq_getElem?_getD, hx]; rfl
  have h1 : F .hasD es iv [.str] = true := by rw [hsd, hiv]; exact t_hasG hF hlt
  have qx : uRead x = true := by subst huLines huLines1 huRead huRead1 huRead2 huRead3 huRead4 huRead5 huRead6 huRead7 huRead8 huNote huNote1 huNote2; exact decide_eq_true (by omega)
  have qb : uNote bd = true := by subst huLines huLines1 huRead huRead1 huRead2 huRead3 huRead4 huRead5 huRead6 huRead7 huRead8 huNote huNote1 huNote2; rw [hbd, bkP, is_en, les, enDs_len]; exact decide_eq_true (by omega)
  have hub : unEn bd = b := by rw [hbd, un_en]
  rw [List.drop_eq_getElem_cons hlt, lookR] at hrun
  rw [(List.getElem?_eq_some_iff.1 hx).2] at hrun
  rw [e1]
  obtain ⟨tt, htt⟩ : ∃ z, z = readT x := ⟨_, rfl⟩
  obtain ⟨re, hre⟩ : ∃ z, z = readE x := ⟨_, rfl⟩
  obtain ⟨nb, hnb⟩ : ∃ z, z = noteB b tt := ⟨_, rfl⟩
  obtain ⟨nv2, hnv2⟩ : ∃ z, z = noteV b tt := ⟨_, rfl⟩
  obtain ⟨vd, hvd⟩ : ∃ z, z = enDs nv2 := ⟨_, rfl⟩
  have f1 : uRead1 x = tt.a := by rw [htt]; subst huLines huLines1 huRead huRead1 huRead2 huRead3 huRead4 huRead5 huRead6 huRead7 huRead8 huNote huNote1 huNote2; rfl
  have f2 : uRead2 x = tt.k := by rw [htt]; subst huLines huLines1 huRead huRead1 huRead2 huRead3 huRead4 huRead5 huRead6 huRead7 huRead8 huNote huNote1 huNote2; rfl
  have f3 : uRead3 x = tt.i := by rw [htt]; subst huLines huLines1 huRead huRead1 huRead2 huRead3 huRead4 huRead5 huRead6 huRead7 huRead8 huNote huNote1 huNote2; rfl
  have f4 : uRead4 x = tt.lv := by rw [htt]; subst huLines huLines1 huRead huRead1 huRead2 huRead3 huRead4 huRead5 huRead6 huRead7 huRead8 huNote huNote1 huNote2; rfl
  have f5 : uRead5 x = tt.s := by rw [htt]; subst huLines huLines1 huRead huRead1 huRead2 huRead3 huRead4 huRead5 huRead6 huRead7 huRead8 huNote huNote1 huNote2; rfl
  have f6 : uRead6 x = tt.w := by rw [htt]; subst huLines huLines1 huRead huRead1 huRead2 huRead3 huRead4 huRead5 huRead6 huRead7 huRead8 huNote huNote1 huNote2; rfl
  have f7 : uRead7 x = tt.d := by rw [htt]; subst huLines huLines1 huRead huRead1 huRead2 huRead3 huRead4 huRead5 huRead6 huRead7 huRead8 huNote huNote1 huNote2; rfl
  have f8 : uRead8 x = re := by rw [hre]; subst huLines huLines1 huRead huRead1 huRead2 huRead3 huRead4 huRead5 huRead6 huRead7 huRead8 huNote huNote1 huNote2; rfl
  have f9 : uNote1 bd tt.a tt.k tt.i tt.lv tt.s tt.w tt.d = vd := by rw [hvd, hnv2, ← hub]; subst huLines huLines1 huRead huRead1 huRead2 huRead3 huRead4 huRead5 huRead6 huRead7 huRead8 huNote huNote1 huNote2; rfl
  have fa : uNote2 bd tt.a tt.k tt.i tt.lv tt.s tt.w tt.d = nb := by rw [hnb, ← hub]; subst huLines huLines1 huRead huRead1 huRead2 huRead3 huRead4 huRead5 huRead6 huRead7 huRead8 huNote huNote1 huNote2; rfl
  rw [← htt, ← hre, ← hnb, ← hnv2] at hrun
  rw [f1, f2, f3, f4, f5, f6, f7, f8, f9, fa]
  refine AKt.need h1 fun _ => ?_
  refine AKt.need qx fun _ => ?_
  refine AKt.node (fun hb2 => ?_) (fun hb2 => ?_)
  · have hr : ¬ re = 0 := by simp only [hF, f_ltI, f_leI, f_eqI, f_eqS, f_eqB, f_not, f_andB, f_orB, f_lenS, f_lenD, f_hasS, f_atS, f_hasC, f_subS, f_hasCat, f_app, f_wrap, f_add, f_sub, f_mul, f_appD, f_fits, f_hasV, f_subV, decide_eq_true_eq, decide_eq_false_iff_not, beq_iff_eq, beq_eq_false_iff_ne, Bool.and_eq_true, Bool.and_eq_false_iff, Bool.not_eq_true, Bool.not_eq_false, Bool.not_eq_eq_eq_not, Bool.not_true, Bool.not_false] at hb2; exact hb2
    rw [if_pos hr] at hrun
    obtain ⟨g1, g2⟩ := Prod.mk.inj hrun
    repeat' (first | with_reducible refine AKt.have ?_ | with_reducible refine AKt.tt ?_ | with_reducible refine AKt.ff ?_ | with_reducible refine AKt.yes (by assumption) ?_ | with_reducible refine AKt.no (by assumption) ?_ | with_reducible refine AKt.node (fun hb => ?_) (fun hb => ?_) | with_reducible refine AKt.need ?_ (fun hb => ?_) | with_reducible refine AKt.leaf ?_ | ((with_reducible show _ = true); assumption))
    refine AKp.doneE tabOK hfr (by rfl) ?_
    show _ = _
    simp only [tupAV]
    rw [inc_i hF hiv (by omega), ← g1, ← g2]
    rfl
  have hr : re = 0 := by simp only [hF, f_ltI, f_leI, f_eqI, f_eqS, f_eqB, f_not, f_andB, f_orB, f_lenS, f_lenD, f_hasS, f_atS, f_hasC, f_subS, f_hasCat, f_app, f_wrap, f_add, f_sub, f_mul, f_appD, f_fits, f_hasV, f_subV, decide_eq_true_eq, decide_eq_false_iff_not, beq_iff_eq, beq_eq_false_iff_ne, Bool.and_eq_true, Bool.and_eq_false_iff, Bool.not_eq_true, Bool.not_eq_false, Bool.not_eq_eq_eq_not, Bool.not_true, Bool.not_false] at hb2; exact hb2
  rw [if_neg (fun h => h hr)] at hrun
  refine AKt.need qb fun _ => ?_
  refine AKt.node (fun hb3 => ?_) (fun hb3 => ?_)
  · have ha : tt.a < at_ := by simp only [hF, f_ltI, f_leI, f_eqI, f_eqS, f_eqB, f_not, f_andB, f_orB, f_lenS, f_lenD, f_hasS, f_atS, f_hasC, f_subS, f_hasCat, f_app, f_wrap, f_add, f_sub, f_mul, f_appD, f_fits, f_hasV, f_subV, decide_eq_true_eq, decide_eq_false_iff_not, beq_iff_eq, beq_eq_false_iff_ne, Bool.and_eq_true, Bool.and_eq_false_iff, Bool.not_eq_true, Bool.not_eq_false, Bool.not_eq_eq_eq_not, Bool.not_true, Bool.not_false] at hb3; exact hb3
    rw [if_pos (.inl ha)] at hrun
    obtain ⟨g1, g2⟩ := Prod.mk.inj hrun
    repeat' (first | with_reducible refine AKt.have ?_ | with_reducible refine AKt.tt ?_ | with_reducible refine AKt.ff ?_ | with_reducible refine AKt.yes (by assumption) ?_ | with_reducible refine AKt.no (by assumption) ?_ | with_reducible refine AKt.node (fun hb => ?_) (fun hb => ?_) | with_reducible refine AKt.need ?_ (fun hb => ?_) | with_reducible refine AKt.leaf ?_ | ((with_reducible show _ = true); assumption))
    refine AKp.doneE tabOK hfr (by rfl) ?_
    show _ = _
    simp only [tupAV]
    rw [inc_i hF hiv (by omega), ← g1, ← g2]
    rfl
  have ha : ¬ tt.a < at_ := by simp only [hF, f_ltI, f_leI, f_eqI, f_eqS, f_eqB, f_not, f_andB, f_orB, f_lenS, f_lenD, f_hasS, f_atS, f_hasC, f_subS, f_hasCat, f_app, f_wrap, f_add, f_sub, f_mul, f_appD, f_fits, f_hasV, f_subV, decide_eq_true_eq, decide_eq_false_iff_not, beq_iff_eq, beq_eq_false_iff_ne, Bool.and_eq_true, Bool.and_eq_false_iff, Bool.not_eq_true, Bool.not_eq_false, Bool.not_eq_eq_eq_not, Bool.not_true, Bool.not_false] at hb3; omega
  refine AKt.node (fun hb4 => ?_) (fun hb4 => ?_)
  · have hn : nb = false := by simp only [hF, f_ltI, f_leI, f_eqI, f_eqS, f_eqB, f_not, f_andB, f_orB, f_lenS, f_lenD, f_hasS, f_atS, f_hasC, f_subS, f_hasCat, f_app, f_wrap, f_add, f_sub, f_mul, f_appD, f_fits, f_hasV, f_subV, decide_eq_true_eq, decide_eq_false_iff_not, beq_iff_eq, beq_eq_false_iff_ne, Bool.and_eq_true, Bool.and_eq_false_iff, Bool.not_eq_true, Bool.not_eq_false, Bool.not_eq_eq_eq_not, Bool.not_true, Bool.not_false] at hb4; simpa using hb4
    rw [if_pos (.inr hn)] at hrun
    obtain ⟨g1, g2⟩ := Prod.mk.inj hrun
    repeat' (first | with_reducible refine AKt.have ?_ | with_reducible refine AKt.tt ?_ | with_reducible refine AKt.ff ?_ | with_reducible refine AKt.yes (by assumption) ?_ | with_reducible refine AKt.no (by assumption) ?_ | with_reducible refine AKt.node (fun hb => ?_) (fun hb => ?_) | with_reducible refine AKt.need ?_ (fun hb => ?_) | with_reducible refine AKt.leaf ?_ | ((with_reducible show _ = true); assumption))
    refine AKp.doneE tabOK hfr (by rfl) ?_
    show _ = _
    simp only [tupAV]
    rw [inc_i hF hiv (by omega), ← g1, ← g2]
    rfl
  have hn : nb = true := by simp only [hF, f_ltI, f_leI, f_eqI, f_eqS, f_eqB, f_not, f_andB, f_orB, f_lenS, f_lenD, f_hasS, f_atS, f_hasC, f_subS, f_hasCat, f_app, f_wrap, f_add, f_sub, f_mul, f_appD, f_fits, f_hasV, f_subV, decide_eq_true_eq, decide_eq_false_iff_not, beq_iff_eq, beq_eq_false_iff_ne, Bool.and_eq_true, Bool.and_eq_false_iff, Bool.not_eq_true, Bool.not_eq_false, Bool.not_eq_eq_eq_not, Bool.not_true, Bool.not_false] at hb4; simpa using hb4
  rw [if_neg (by rintro (h | h); exact ha h; rw [hn] at h; cases h)] at hrun
  have hlen : nv2.length ≤ i + 1 := by rw [hnv2]; exact Nat.le_trans (noteV_len _ _) (by omega)
  repeat' (first | with_reducible refine AKt.have ?_ | with_reducible refine AKt.tt ?_ | with_reducible refine AKt.ff ?_ | with_reducible refine AKt.yes (by assumption) ?_ | with_reducible refine AKt.no (by assumption) ?_ | with_reducible refine AKt.node (fun hb => ?_) (fun hb => ?_) | with_reducible refine AKt.need ?_ (fun hb => ?_) | with_reducible refine AKt.leaf ?_ | ((with_reducible show _ = true); assumption))
  refine AKp.again _ hfr (by repeat (first | exact True.intro | refine ⟨⟨rfl, rfl⟩, ?_⟩)) (by repeat (first | exact True.intro | refine ⟨⟨rfl, rfl, rfl⟩, ?_⟩)) (hJ (n - 1) _ _ (by omega) ⟨i + 1, _, _, nv2, _, by omega, inc_i hF hiv (by omega), hvd, hlen, hrun, rfl, rfl⟩)
def φLook (p : List UInt8 → Bool) (u e : List UInt8 → Int) : List AV → Option (Bool × AV)
  | [.d (.s (.str s))] => some (p s, .tup [.d (.s (.int .i64 (u s))), .d (.s (.int .i64 (e s)))])
  | _ => none
theorem φLook_ok : SpOK Tryd.prog 9 (φLook (leL) (fun s => (lookF s).1) (fun s => (lookF s).2)) := by
  intro xs b x h hb
  unfold φLook at h
  split at h
  · simp only [Option.some.injEq, Prod.mk.injEq] at h
    obtain ⟨rfl, rfl⟩ := h
    exact Look_spec _ hb
  · cases h
end Go.Proofs.YtlcgjeafmbbipaaDoor

/- What the lines ahead told of a request, and the book: the same. -/
namespace Go.Proofs.YtlcgjeafmbbipaaDoor
open Go Go.Proofs Go.Ua Go.Extern
set_option linter.unusedVariables false
set_option linter.unusedSimpArgs false

def tlDs (l : List Tl) : List Dat := l.map Tl.dat
theorem tlDs_len (l : List Tl) : (tlDs l).length = l.length := by simp [tlDs]

structure Ts where
  n : Int
  st : Bool
  lv : List UInt8
def tellS (id : Int) (x : Ts) (t : Tl) : Ts := if t.k < 6 ∧ t.i = id then ⟨x.n + 1, decide (t.k = 1), t.lv⟩ else x
def tellF (all : List Tl) (id : Int) : Ts := all.foldl (tellS id) ⟨0, false, []⟩
theorem tellF_snoc (all : List Tl) (t : Tl) (id : Int) : tellF (all ++ [t]) id = tellS id (tellF all id) t := by simp [tellF]
theorem tellF_nn (all : List Tl) (id : Int) : 0 ≤ (tellF all id).n ∧ (tellF all id).n ≤ all.length := by
  have : ∀ (l : List Tl) (x : Ts), x.n ≤ (l.foldl (tellS id) x).n ∧ (l.foldl (tellS id) x).n ≤ x.n + l.length := by
    intro l
    induction l with
    | nil => intro x; simp
    | cons t l ih =>
      intro x
      have h := ih (tellS id x t)
      have h2 : x.n ≤ (tellS id x t).n ∧ (tellS id x t).n ≤ x.n + 1 := by
        unfold tellS
        split
        · exact ⟨by show x.n ≤ x.n + 1; omega, by show x.n + 1 ≤ x.n + 1; omega⟩
        · omega
      rw [List.foldl_cons, List.length_cons]
      omega
  have h := this all ⟨0, false, []⟩
  exact ⟨h.1, Int.le_trans h.2 (by show (0 : Int) + _ ≤ _; omega)⟩

/-- The book holds what was told. -/
def Holds (x : Ts) (b : List En) (id : Int) : Prop :=
  (x.n = 0 → hasN b id = false) ∧ (x.n = 1 → x.st = true → hasN b id = true ∧ getN b id = ⟨id, 2, x.lv⟩) ∧ (¬ x.n = 0 → ¬ (x.n = 1 ∧ x.st = true) → hasN b id = true ∧ (getN b id).ph = 3)
def RB (all : List Tl) (b : List En) : Prop := ∀ id, Holds (tellF all id) b id
def badR (x : Ts) (t : Tl) : Bool := decide (t.k < 6) && (decide (¬ t.k = 5 ∧ 0 < x.n) || decide (t.k = 5 ∧ (¬ x.n = 1 ∨ x.st = false ∨ ¬ x.lv = t.lv)))

theorem has_some {l : List En} {id : Int} : hasN l id = true ↔ ∃ e, e ∈ l ∧ e.id = id := by
  rcases find_cases l id with ⟨c1, c2, c3⟩ | ⟨i, e, c1, c2, c3, c4, c5, c6⟩
  · rw [c2]
    constructor
    · intro h; cases h
    · rintro ⟨e, he, hi⟩
      obtain ⟨j, hj⟩ := List.getElem?_of_mem he
      exact absurd hi (c3 j e hj)
  · rw [c4]
    exact ⟨fun _ => ⟨e, List.mem_of_getElem? c2, c3⟩, fun _ => rfl⟩
theorem find_at {l : List En} {id : Int} {i : Nat} {e : En} (h : l[i]? = some e) (he : e.id = id) (hn : ∀ (j : Nat) (e : En), j < i → l[j]? = some e → e.id ≠ id) : findI l id = i ∧ hasN l id = true ∧ getN l id = e := by
  have h1 := findI_some h he hn
  have h2 : hasN l id = true := has_some.2 ⟨e, List.mem_of_getElem? h, he⟩
  refine ⟨h1, h2, ?_⟩
  rw [getN, if_pos h2, h1, Int.toNat_natCast, List.getD_eq_getElem?_getD, h]
  rfl
theorem none_of {l : List En} {id : Int} (h : hasN l id = false) : ∀ (i : Nat) (e : En), l[i]? = some e → e.id ≠ id := fun i e he hi => by
  rw [has_some.2 ⟨e, List.mem_of_getElem? he, hi⟩] at h; cases h
theorem app_same {l : List En} {x : En} (h : hasN l x.id = false) : hasN (l ++ [x]) x.id = true ∧ getN (l ++ [x]) x.id = x := by
  have := find_at (l := l ++ [x]) (i := l.length) (e := x) (by simp) rfl (fun j e hj he => none_of h j e (by rw [List.getElem?_append_left hj] at he; exact he))
  exact this.2
theorem app_other {l : List En} {x : En} {id : Int} (h : ¬ x.id = id) : hasN (l ++ [x]) id = hasN l id ∧ getN (l ++ [x]) id = getN l id := by
  rcases find_cases l id with ⟨c1, c2, c3⟩ | ⟨i, e, c1, c2, c3, c4, c5, c6⟩
  · have h2 : hasN (l ++ [x]) id = false := by
      rw [Bool.eq_false_iff]
      intro hh
      obtain ⟨e, he, hi⟩ := has_some.1 hh
      rcases List.mem_append.1 he with he | he
      · rw [has_some.2 ⟨e, he, hi⟩] at c2; cases c2
      · rw [List.mem_singleton.1 he] at hi; exact h hi
    rw [h2, c2, getN, getN, h2, c2]
    exact ⟨rfl, rfl⟩
  · have hi := (List.getElem?_eq_some_iff.1 c2).1
    have := find_at (l := l ++ [x]) (i := i) (e := e) (id := id) (by rw [List.getElem?_append_left hi]; exact c2) c3 (fun j e hj he => c6 j e hj (by rw [List.getElem?_append_left (by omega)] at he; exact he))
    rw [this.2.1, this.2.2, c4, c5]
    exact ⟨rfl, rfl⟩
theorem set_same {l : List En} {id : Int} (h : hasN l id = true) (p : Int) : hasN (l.set (findI l id).toNat ⟨(getN l id).id, p, (getN l id).lv⟩) id = true ∧ getN (l.set (findI l id).toNat ⟨(getN l id).id, p, (getN l id).lv⟩) id = ⟨id, p, (getN l id).lv⟩ := by
  rcases find_cases l id with ⟨c1, c2, c3⟩ | ⟨i, e, c1, c2, c3, c4, c5, c6⟩
  · rw [c2] at h; cases h
  rw [c1, c5, Int.toNat_natCast]
  have hi := (List.getElem?_eq_some_iff.1 c2).1
  have := find_at (l := l.set i ⟨e.id, p, e.lv⟩) (i := i) (e := ⟨e.id, p, e.lv⟩) (id := id) (by rw [List.getElem?_set_self hi]) c3 (fun j e' hj he => c6 j e' hj (by rw [List.getElem?_set_ne (by omega)] at he; exact he))
  rw [this.2.1, this.2.2, c3]
  exact ⟨rfl, rfl⟩
theorem set_other {l : List En} {id id' : Int} (h : hasN l id = true) (hne : ¬ id = id') (p : Int) : hasN (l.set (findI l id).toNat ⟨(getN l id).id, p, (getN l id).lv⟩) id' = hasN l id' ∧ getN (l.set (findI l id).toNat ⟨(getN l id).id, p, (getN l id).lv⟩) id' = getN l id' := by
  rcases find_cases l id with ⟨c1, c2, c3⟩ | ⟨i, e, c1, c2, c3, c4, c5, c6⟩
  · rw [c2] at h; cases h
  rw [c1, c5, Int.toNat_natCast]
  have hi := (List.getElem?_eq_some_iff.1 c2).1
  rcases find_cases l id' with ⟨d1, d2, d3⟩ | ⟨k, f, d1, d2, d3, d4, d5, d6⟩
  · have h2 : hasN (l.set i ⟨e.id, p, e.lv⟩) id' = false := by
      rw [Bool.eq_false_iff]
      intro hh
      obtain ⟨g, hg, hgi⟩ := has_some.1 hh
      rcases List.mem_or_eq_of_mem_set hg with hg | hg
      · rw [has_some.2 ⟨g, hg, hgi⟩] at d2; cases d2
      · rw [hg] at hgi; exact hne (c3.symm.trans hgi)
    rw [h2, d2, getN, getN, h2, d2]
    exact ⟨rfl, rfl⟩
  · have hki : ¬ k = i := fun h => by rw [h, c2] at d2; cases d2; exact hne (c3.symm.trans d3)
    have := find_at (l := l.set i ⟨e.id, p, e.lv⟩) (i := k) (e := f) (id := id') (by rw [List.getElem?_set_ne (by omega)]; exact d2) d3 (fun j g hj hg => by
      by_cases hji : j = i
      · rw [hji, List.getElem?_set_self hi] at hg
        cases hg
        exact fun h => hne (c3.symm.trans h)
      · rw [List.getElem?_set_ne (by omega)] at hg
        exact d6 j g hj hg)
    rw [this.2.1, this.2.2, d4, d5]
    exact ⟨rfl, rfl⟩

/-- What a valid line does to the book is what the lines ahead tell. -/
theorem note_all {all : List Tl} {b : List En} {t : Tl} (h : RB all b) (hv : validB t = true) :
    (badR (tellF all t.i) t = true → noteB b t = false) ∧ (badR (tellF all t.i) t = false → noteB b t = true ∧ RB (all ++ [t]) (noteV b t)) := by
  have hk : t.k < 6 → 0 ≤ t.i ∧ t.i ≤ 999999999 ∧ (t.k = 1 ∨ t.k = 2 ∨ t.k = 3 ∨ t.k = 4 ∨ t.k = 5) := fun hk => by
    simp only [validB, namedB, inB3, Bool.and_eq_true] at hv
    have h2 := hv.2
    repeat' split at h2
    all_goals try simp only [Bool.and_eq_true, decide_eq_true_eq] at h2
    all_goals first | omega | cases h2
  have ext : ∀ b', (∀ id, ¬ t.i = id → hasN b' id = hasN b id ∧ getN b' id = getN b id) → (∀ id, Holds (tellF all id) b id) → (t.k < 6 → Holds (tellS t.i (tellF all t.i) t) b' t.i) → (¬ t.k < 6 → b' = b) → RB (all ++ [t]) b' := by
    intro b' h1 h2 h3 h4 id
    rw [tellF_snoc]
    by_cases c : t.k < 6
    · by_cases e : t.i = id
      · rw [← e]; exact h3 c
      · rw [tellS, if_neg (fun h => e h.2)]
        obtain ⟨g1, g2⟩ := h1 id e
        unfold Holds
        rw [g1, g2]
        exact h2 id
    · rw [tellS, if_neg (fun h => c h.1), h4 c]; exact h2 id
  by_cases c : t.k < 6
  rotate_left
  · have hO : noteO b t = some b := by
      rw [noteO, if_neg (by omega), if_neg (by omega), if_neg (by omega)]
    obtain ⟨n1, n2⟩ := note_s b b t hO
    rw [n1, n2]
    refine ⟨fun hb => ?_, fun _ => ⟨rfl, ext b (fun _ _ => ⟨rfl, rfl⟩) h (fun h => absurd h c) fun _ => rfl⟩⟩
    rw [badR, decide_eq_false c] at hb
    cases hb
  obtain ⟨i0, i1, ks⟩ := hk c
  obtain ⟨x, hx⟩ : ∃ z, z = tellF all t.i := ⟨_, rfl⟩
  have hxn := (tellF_nn all t.i).1
  have hh := h t.i
  rw [← hx] at hh hxn ⊢
  obtain ⟨m1, m2, m3⟩ := hh
  by_cases c5 : t.k = 5
  rotate_left
  · -- a request is begun
    obtain ⟨ph, hph, hO⟩ : ∃ ph, (ph = if t.k = 1 then 2 else 3) ∧ noteO b t = if begE b ⟨t.i, ph, t.lv⟩ = 0 then some (b ++ [⟨t.i, ph, t.lv⟩]) else none := by
      by_cases c1 : t.k = 1
      · exact ⟨2, by rw [if_pos c1], by rw [noteO, if_pos c1]⟩
      · exact ⟨3, by rw [if_neg c1], by rw [noteO, if_neg c1, if_pos (by omega)]⟩
    obtain ⟨n1, n2⟩ := note_b b t _ hO
    have hp : phB ph = true := by rw [hph]; split <;> rfl
    have hE : begE b ⟨t.i, ph, t.lv⟩ = if hasN b t.i = true then 5 else 0 := by
      rw [begE, if_neg (by rintro (h | h | h); exact absurd h (by show ¬ t.i < 0; omega); exact absurd h (by show ¬ 999999999 < t.i; omega); rw [show phB ph = true from hp] at h; cases h)]
    have hbad : badR x t = decide (0 < x.n) := by
      rw [badR, decide_eq_true c]
      by_cases e : 0 < x.n <;> simp [c5, e]
    rw [hbad, n1, n2, begV]
    by_cases e : 0 < x.n
    · have hn : hasN b t.i = true := by
        by_cases e1 : x.n = 1 ∧ x.st = true
        · exact (m2 e1.1 e1.2).1
        · exact (m3 (by omega) e1).1
      rw [hE, if_pos hn]
      exact ⟨fun _ => by decide, fun h => by rw [decide_eq_true e] at h; cases h⟩
    · have hn : hasN b t.i = false := m1 (by omega)
      rw [hE, if_neg (by rw [hn]; decide), if_pos rfl]
      refine ⟨fun h => (by rw [decide_eq_false e] at h; cases h), fun _ => ⟨by decide, ?_⟩⟩
      obtain ⟨s1, s2⟩ := app_same (l := b) (x := ⟨t.i, ph, t.lv⟩) hn
      refine ext _ (fun id hid => app_other hid) h (fun _ => ?_) (fun h => absurd c h)
      rw [tellS, if_pos ⟨c, rfl⟩, ← hx]
      refine ⟨fun h => by have : x.n + 1 = 0 := h; omega, fun _ h2 => ⟨s1, ?_⟩, fun _ h2 => ⟨s1, ?_⟩⟩
      · rw [s2, hph, if_pos (of_decide_eq_true h2)]
      · rw [s2]
        show ph = 3
        rw [hph, if_neg]
        intro h3
        exact h2 ⟨by show x.n + 1 = 1; omega, decide_eq_true h3⟩
  · -- a request is over
    have hO : noteO b t = if hasN b t.i = true ∧ (getN b t.i).lv = t.lv ∧ movE b t.i 3 = 0 then some (movV b t.i 3) else none := by
      rw [noteO, if_neg (by omega), if_neg (by omega), if_pos c5]
    by_cases e : x.n = 1 ∧ x.st = true ∧ x.lv = t.lv
    · obtain ⟨g1, g2⟩ := m2 e.1 e.2.1
      have hbad : badR x t = false := by
        rw [badR]
        simp [c5, e.1, e.2.1, e.2.2]
      have hm : movE b t.i 3 = 0 := by
        rw [movE, if_neg (by rw [g1]; decide), g2]
        rfl
      rw [if_pos ⟨g1, by rw [g2]; exact e.2.2, hm⟩] at hO
      obtain ⟨n1, n2⟩ := note_s _ _ t hO
      rw [hbad, n1, n2]
      refine ⟨fun h => (by cases h), fun _ => ⟨rfl, ?_⟩⟩
      rw [movV, if_pos hm]
      refine ext _ (fun id hid => set_other g1 hid 3) h (fun _ => ?_) (fun h => absurd c h)
      obtain ⟨s1, s2⟩ := set_same g1 3
      rw [tellS, if_pos ⟨c, rfl⟩, ← hx]
      refine ⟨fun h => by have : x.n + 1 = 0 := h; omega, fun h _ => by have : x.n + 1 = 1 := h; omega, fun _ _ => ⟨s1, by rw [s2]⟩⟩
    · have hbad : badR x t = true := by
        rw [badR, decide_eq_true c]
        have : t.k = 5 ∧ (¬ x.n = 1 ∨ x.st = false ∨ ¬ x.lv = t.lv) := by
          refine ⟨c5, ?_⟩
          by_cases e1 : x.n = 1
          · by_cases e2 : x.st = true
            · exact .inr (.inr fun e3 => e ⟨e1, e2, e3⟩)
            · exact .inr (.inl (by simpa using e2))
          · exact .inl e1
        rw [decide_eq_true this, Bool.or_true]
        rfl
      rw [if_neg] at hO
      rotate_left
      · rintro ⟨a1, a2, a3⟩
        by_cases e0 : x.n = 0
        · rw [m1 e0] at a1; cases a1
        by_cases e1 : x.n = 1 ∧ x.st = true
        · obtain ⟨g1, g2⟩ := m2 e1.1 e1.2
          rw [g2] at a2
          exact e ⟨e1.1, e1.2, a2⟩
        · obtain ⟨g1, g2⟩ := m3 e0 e1
          rw [movE, if_neg (by rw [g1]; decide), g2, if_pos (.inr (by decide))] at a3
          cases a3
      obtain ⟨n1, n2⟩ := note_n _ t hO
      rw [hbad, n2]
      exact ⟨fun _ => rfl, fun h => by cases h⟩
end Go.Proofs.YtlcgjeafmbbipaaDoor

/- The document's answer for a trace. -/
namespace Go.Proofs.YtlcgjeafmbbipaaDoor
open Go Go.Proofs Go.Ua Go.Extern
set_option linter.unusedVariables false
set_option linter.unusedSimpArgs false
set_option maxRecDepth 10000

theorem RB_nil0 : RB [] [] := fun id => ⟨fun _ => rfl, fun h => (by cases h), fun h => absurd rfl h⟩
set_option maxRecDepth 10000 in
set_option maxHeartbeats 4000000 in
theorem RefLook_spec (s : List UInt8) (hs : le4 s = true) : ESpec Tryd.prog 10 [.d (.s (.str s))] (fun x => x = .tup [.d (.s (.int .i64 (lookF s).1)), .d (.s (.int .i64 (lookF s).2))]) := by
  obtain ⟨uRefLines, huRefLines⟩ : ∃ u : List UInt8 → Bool, u = le32 := ⟨_, rfl⟩
  obtain ⟨uRefLines1, huRefLines1⟩ : ∃ u : List UInt8 → List Dat, u = fun w => strDs (linesF w) := ⟨_, rfl⟩
  obtain ⟨uRefRead, huRefRead⟩ : ∃ u : List UInt8 → Bool, u = le4 := ⟨_, rfl⟩
  obtain ⟨uRefRead1, huRefRead1⟩ : ∃ u : List UInt8 → Int, u = fun s => (readT s).a := ⟨_, rfl⟩
  obtain ⟨uRefRead2, huRefRead2⟩ : ∃ u : List UInt8 → Int, u = fun s => (readT s).k := ⟨_, rfl⟩
  obtain ⟨uRefRead3, huRefRead3⟩ : ∃ u : List UInt8 → Int, u = fun s => (readT s).i := ⟨_, rfl⟩
  obtain ⟨uRefRead4, huRefRead4⟩ : ∃ u : List UInt8 → List UInt8, u = fun s => (readT s).lv := ⟨_, rfl⟩
  obtain ⟨uRefRead5, huRefRead5⟩ : ∃ u : List UInt8 → Int, u = fun s => (readT s).s := ⟨_, rfl⟩
  obtain ⟨uRefRead6, huRefRead6⟩ : ∃ u : List UInt8 → Int, u = fun s => (readT s).w := ⟨_, rfl⟩
  obtain ⟨uRefRead7, huRefRead7⟩ : ∃ u : List UInt8 → Int, u = fun s => (readT s).d := ⟨_, rfl⟩
  obtain ⟨uRefRead8, huRefRead8⟩ : ∃ u : List UInt8 → Int, u = readE := ⟨_, rfl⟩
  have hG : TblOK Tryd.prog [(11, .p (φRefLines uRefLines uRefLines1)), (16, .p (φRefRead uRefRead uRefRead1 uRefRead2 uRefRead3 uRefRead4 uRefRead5 uRefRead6 uRefRead7 uRefRead8))] := ⟨(by rw [huRefLines, huRefLines1]; exact φRefLines_ok), (by rw [huRefRead, huRefRead1, huRefRead2, huRefRead3, huRefRead4, huRefRead5, huRefRead6, huRefRead7, huRefRead8]; exact φRefRead_ok), trivial⟩
  have hs' : s.length ≤ 8192 := of_decide_eq_true hs
  refine ESpec.enter Tryd.func10 (by kernel_rfl) rfl (Nat.le_of_ble_eq_true rfl) fun hok cx hnt hfr => ?_
  obtain ⟨F, hF⟩ := real_ex
  refine AK.runT hF tabOK hmix hnt hfr false _ hG ?_
  conv => arg 4; cbv
  obtain ⟨l, hl⟩ : ∃ z, z = linesF s := ⟨_, rfl⟩
  obtain ⟨es, hes⟩ : ∃ z, z = uRefLines1 s := ⟨_, rfl⟩
  obtain ⟨R1, hR1⟩ : ∃ z, z = (lookF s).1 := ⟨_, rfl⟩
  obtain ⟨R2, hR2⟩ : ∃ z, z = (lookF s).2 := ⟨_, rfl⟩
  rw [← hes, ← hR1, ← hR2]
  have hsd : es = strDs l := by rw [hes, hl]; subst huRefLines huRefLines1 huRefRead huRefRead1 huRefRead2 huRefRead3 huRefRead4 huRefRead5 huRefRead6 huRefRead7 huRefRead8; rfl
  have hel : es.length = l.length := by rw [hsd]; simp [strDs]
  have hll : l.length ≤ s.length + 1 := by rw [hl]; exact lines_num s
  have hlc : ∀ x, x ∈ l → x.length ≤ s.length := fun x hx => lines_le (by rw [← hl]; exact hx)
  have q1 : uRefLines s = true := by subst huRefLines huRefLines1 huRefRead huRefRead1 huRefRead2 huRefRead3 huRefRead4 huRefRead5 huRefRead6 huRefRead7 huRefRead8; exact decide_eq_true (by omega)
  have h4 : ¬ 4194304 < s.length := by omega
  have hb : F .ltI 4194304 (F .lenS s) = false := by simp only [hF, f_ltI, f_leI, f_eqI, f_eqS, f_eqB, f_not, f_andB, f_orB, f_lenS, f_lenD, f_hasS, f_atS, f_hasC, f_subS, f_hasCat, f_app, f_wrap, f_add, f_sub, f_mul, f_appD, f_fits, f_hasV, f_subV, decide_eq_true_eq, decide_eq_false_iff_not, beq_iff_eq, beq_eq_false_iff_ne, Bool.and_eq_true, Bool.and_eq_false_iff, Bool.not_eq_true, Bool.not_eq_false, Bool.not_eq_eq_eq_not, Bool.not_true, Bool.not_false] at *; omega
  have hR : lookR l 0 [] 0 = (R1, R2) := by rw [hR1, hR2, lookF, if_neg h4, hl]
  clear hR1 hR2
  repeat' (first | with_reducible refine AKt.have ?_ | with_reducible refine AKt.tt ?_ | with_reducible refine AKt.ff ?_ | with_reducible refine AKt.yes (by assumption) ?_ | with_reducible refine AKt.no (by assumption) ?_ | with_reducible refine AKt.node (fun hb => ?_) (fun hb => ?_) | with_reducible refine AKt.need ?_ (fun hb => ?_) | with_reducible refine AKt.leaf ?_ | ((with_reducible show _ = true); assumption))
  refine AKp.asRow 5 37 7 (by decide) rfl ?_
  conv => arg 4; arg 2; cbv
  refine AKp.enterLoop 7 ?_
  conv => arg 7; cbv
  refine AKl.invT hF tabOK hmix hnt hfr true _ hG (fun n vs hs => ∃ (i : Nat) (iv at_ : Int) (b : List En) (all : List Tl) (ad : List Dat), i + n = l.length ∧ iv = i ∧ ad = tlDs all ∧ all.length = i ∧ RB all b ∧ (i = 0 → at_ = 0) ∧ (∀ t, all[i - 1]? = some t → at_ = t.a) ∧ lookR (l.drop i) i b at_ = (R1, R2) ∧ vs = [(6, .d (.s (.int .i64 iv))), (5, .row 0 7)] ∧ hs = [(0, .ds 37 7 ad)]) l.length ⟨0, _, 0, [], [], [], by omega, rfl, rfl, by simp, RB_nil0, fun _ => rfl, by simp, hR, rfl, rfl⟩ (by repeat (first | exact True.intro | refine ⟨⟨rfl, rfl⟩, ?_⟩)) (by repeat (first | exact True.intro | refine ⟨⟨rfl, rfl, rfl⟩, ?_⟩)) ?_
  rintro J n vs hs hJ ⟨i, iv, at_, b, all, ad, hi, hiv, had, hal, hrb, hat0, hat1, hrun, rfl, rfl⟩
  conv => arg 4; cbv
  have lenE : F .lenD es = (l.length : Int) := by rw [hF, f_lenD, hel]
  refine AKt.node (fun hb1 => ?_) (fun hb1 => ?_)
  rotate_left
  · have hge : ¬ i < l.length := by rw [lenE, hiv] at hb1; simp only [hF, f_ltI, f_leI, f_eqI, f_eqS, f_eqB, f_not, f_andB, f_orB, f_lenS, f_lenD, f_hasS, f_atS, f_hasC, f_subS, f_hasCat, f_app, f_wrap, f_add, f_sub, f_mul, f_appD, f_fits, f_hasV, f_subV, decide_eq_true_eq, decide_eq_false_iff_not, beq_iff_eq, beq_eq_false_iff_ne, Bool.and_eq_true, Bool.and_eq_false_iff, Bool.not_eq_true, Bool.not_eq_false, Bool.not_eq_eq_eq_not, Bool.not_true, Bool.not_false] at hb1; omega
    rw [List.drop_eq_nil_of_le (by omega)] at hrun
    obtain ⟨g1, g2⟩ := Prod.mk.inj hrun
    repeat' (first | with_reducible refine AKt.have ?_ | with_reducible refine AKt.tt ?_ | with_reducible refine AKt.ff ?_ | with_reducible refine AKt.yes (by assumption) ?_ | with_reducible refine AKt.no (by assumption) ?_ | with_reducible refine AKt.node (fun hb => ?_) (fun hb => ?_) | with_reducible refine AKt.need ?_ (fun hb => ?_) | with_reducible refine AKt.leaf ?_ | ((with_reducible show _ = true); assumption))
    refine AKp.doneE tabOK hfr (by rfl) ?_
    show _ = _
    simp only [tupAV]
    rw [← g1, ← g2]
  have hlt : i < l.length := by rw [lenE, hiv] at hb1; simp only [hF, f_ltI, f_leI, f_eqI, f_eqS, f_eqB, f_not, f_andB, f_orB, f_lenS, f_lenD, f_hasS, f_atS, f_hasC, f_subS, f_hasCat, f_app, f_wrap, f_add, f_sub, f_mul, f_appD, f_fits, f_hasV, f_subV, decide_eq_true_eq, decide_eq_false_iff_not, beq_iff_eq, beq_eq_false_iff_ne, Bool.and_eq_true, Bool.and_eq_false_iff, Bool.not_eq_true, Bool.not_eq_false, Bool.not_eq_eq_eq_not, Bool.not_true, Bool.not_false] at hb1; omega
  obtain ⟨x, hx⟩ : ∃ x, l[i]? = some x := ⟨_, List.getElem?_eq_getElem hlt⟩
  have hxl := hlc x (List.mem_of_getElem? hx)
  have e1 : F .strA es iv 0 = x := by rw [hsd, hiv, t_strG hF, List.getD_eq_getElem?_getD, hx]; rfl
  have h1 : F .hasD es iv [.str] = true := by rw [hsd, hiv]; exact t_hasG hF hlt
  have qx : uRefRead x = true := by subst huRefLines huRefLines1 huRefRead huRefRead1 huRefRead2 huRefRead3 huRefRead4 huRefRead5 huRefRead6 huRefRead7 huRefRead8; exact decide_eq_true (by omega)
  rw [List.drop_eq_getElem_cons hlt, lookR] at hrun
  rw [(List.getElem?_eq_some_iff.1 hx).2] at hrun
  rw [e1]
  obtain ⟨tt, htt⟩ : ∃ z, z = readT x := ⟨_, rfl⟩
  obtain ⟨re, hre⟩ : ∃ z, z = readE x := ⟨_, rfl⟩
  obtain ⟨ta, hta⟩ : ∃ z, z = tt.a := ⟨_, rfl⟩
  obtain ⟨tk, htk⟩ : ∃ z, z = tt.k := ⟨_, rfl⟩
  obtain ⟨ti, hti⟩ : ∃ z, z = tt.i := ⟨_, rfl⟩
  obtain ⟨tl, htl⟩ : ∃ z, z = tt.lv := ⟨_, rfl⟩
  obtain ⟨tsv, hts⟩ : ∃ z, z = tt.s := ⟨_, rfl⟩
  obtain ⟨tw, htw⟩ : ∃ z, z = tt.w := ⟨_, rfl⟩
  obtain ⟨td, htd⟩ : ∃ z, z = tt.d := ⟨_, rfl⟩
  have f1 : uRefRead1 x = ta := by rw [hta, htt]; subst huRefLines huRefLines1 huRefRead huRefRead1 huRefRead2 huRefRead3 huRefRead4 huRefRead5 huRefRead6 huRefRead7 huRefRead8; rfl
  have f2 : uRefRead2 x = tk := by rw [htk, htt]; subst huRefLines huRefLines1 huRefRead huRefRead1 huRefRead2 huRefRead3 huRefRead4 huRefRead5 huRefRead6 huRefRead7 huRefRead8; rfl
  have f3 : uRefRead3 x = ti := by rw [hti, htt]; subst huRefLines huRefLines1 huRefRead huRefRead1 huRefRead2 huRefRead3 huRefRead4 huRefRead5 huRefRead6 huRefRead7 huRefRead8; rfl
  have f4 : uRefRead4 x = tl := by rw [htl, htt]; subst huRefLines huRefLines1 huRefRead huRefRead1 huRefRead2 huRefRead3 huRefRead4 huRefRead5 huRefRead6 huRefRead7 huRefRead8; rfl
  have f5 : uRefRead5 x = tsv := by rw [hts, htt]; subst huRefLines huRefLines1 huRefRead huRefRead1 huRefRead2 huRefRead3 huRefRead4 huRefRead5 huRefRead6 huRefRead7 huRefRead8; rfl
  have f6 : uRefRead6 x = tw := by rw [htw, htt]; subst huRefLines huRefLines1 huRefRead huRefRead1 huRefRead2 huRefRead3 huRefRead4 huRefRead5 huRefRead6 huRefRead7 huRefRead8; rfl
  have f7 : uRefRead7 x = td := by rw [htd, htt]; subst huRefLines huRefLines1 huRefRead huRefRead1 huRefRead2 huRefRead3 huRefRead4 huRefRead5 huRefRead6 huRefRead7 huRefRead8; rfl
  have f8 : uRefRead8 x = re := by rw [hre]; subst huRefLines huRefLines1 huRefRead huRefRead1 huRefRead2 huRefRead3 huRefRead4 huRefRead5 huRefRead6 huRefRead7 huRefRead8; rfl
  have re2 : re = 0 ∨ re = 2 := by rw [hre]; unfold readE; split <;> simp
  have val : re = 0 → validB tt = true := fun h => by
    rw [hre] at h
    rw [htt]
    unfold readE at h
    split at h
    · exact (read_valid (by assumption)).1
    · cases h
  rw [← htt, ← hre] at hrun
  rw [f1, f2, f3, f4, f5, f6, f7, f8]
  refine AKt.need h1 fun _ => ?_
  refine AKt.need qx fun _ => ?_
  refine AKt.node (fun hb2 => ?_) (fun hb2 => ?_)
  · have hr : ¬ re = 0 := by simp only [hF, f_ltI, f_leI, f_eqI, f_eqS, f_eqB, f_not, f_andB, f_orB, f_lenS, f_lenD, f_hasS, f_atS, f_hasC, f_subS, f_hasCat, f_app, f_wrap, f_add, f_sub, f_mul, f_appD, f_fits, f_hasV, f_subV, decide_eq_true_eq, decide_eq_false_iff_not, beq_iff_eq, beq_eq_false_iff_ne, Bool.and_eq_true, Bool.and_eq_false_iff, Bool.not_eq_true, Bool.not_eq_false, Bool.not_eq_eq_eq_not, Bool.not_true, Bool.not_false] at hb2; exact hb2
    rw [if_pos hr] at hrun
    obtain ⟨g1, g2⟩ := Prod.mk.inj hrun
    repeat' (first | with_reducible refine AKt.have ?_ | with_reducible refine AKt.tt ?_ | with_reducible refine AKt.ff ?_ | with_reducible refine AKt.yes (by assumption) ?_ | with_reducible refine AKt.no (by assumption) ?_ | with_reducible refine AKt.node (fun hb => ?_) (fun hb => ?_) | with_reducible refine AKt.need ?_ (fun hb => ?_) | with_reducible refine AKt.leaf ?_ | ((with_reducible show _ = true); assumption))
    refine AKp.doneE tabOK hfr (by rfl) ?_
    show _ = _
    simp only [tupAV]
    rw [inc_i hF hiv (by omega), ← g1, ← g2]
    rcases re2 with h | h
    · exact absurd h hr
    · rw [h]; rfl
  have hr : re = 0 := by simp only [hF, f_ltI, f_leI, f_eqI, f_eqS, f_eqB, f_not, f_andB, f_orB, f_lenS, f_lenD, f_hasS, f_atS, f_hasC, f_subS, f_hasCat, f_app, f_wrap, f_add, f_sub, f_mul, f_appD, f_fits, f_hasV, f_subV, decide_eq_true_eq, decide_eq_false_iff_not, beq_iff_eq, beq_eq_false_iff_ne, Bool.and_eq_true, Bool.and_eq_false_iff, Bool.not_eq_true, Bool.not_eq_false, Bool.not_eq_eq_eq_not, Bool.not_true, Bool.not_false] at hb2; exact hb2
  rw [if_neg (fun h => h hr)] at hrun
  have hv := val hr
  obtain ⟨n1, n2⟩ := note_all hrb hv
  have ta0 : 0 ≤ tt.a := by
    simp only [validB, inB3, Bool.and_eq_true, decide_eq_true_eq] at hv
    exact hv.1.1
  refine AKt.node (fun hb3 => ?pos) (fun hb3 => ?zero)
  case' pos =>
    have h0 : 0 < i := by rw [hiv] at hb3; simp only [hF, f_ltI, f_leI, f_eqI, f_eqS, f_eqB, f_not, f_andB, f_orB, f_lenS, f_lenD, f_hasS, f_atS, f_hasC, f_subS, f_hasCat, f_app, f_wrap, f_add, f_sub, f_mul, f_appD, f_fits, f_hasV, f_subV, decide_eq_true_eq, decide_eq_false_iff_not, beq_iff_eq, beq_eq_false_iff_ne, Bool.and_eq_true, Bool.and_eq_false_iff, Bool.not_eq_true, Bool.not_eq_false, Bool.not_eq_eq_eq_not, Bool.not_true, Bool.not_false] at hb3; omega
    obtain ⟨pt, hpt⟩ : ∃ t, all[i - 1]? = some t := ⟨_, List.getElem?_eq_getElem (by omega)⟩
    obtain ⟨va, vk, vi, vl, vs_, vw, vd⟩ := pt
    have hat := hat1 _ hpt
    have hpd : ad[i - 1]? = some (.agg [.s (.int .i64 va), .s (.int .i64 vk), .s (.int .i64 vi), .s (.str vl), .s (.int .i64 vs_), .s (.int .i64 vw), .s (.int .u64 vd)]) := by rw [had, tlDs, List.getElem?_map, hpt]; rfl
    have hix : F .wrap .i64 (F .sub iv 1) = ((i - 1 : Nat) : Int) := by
      rw [hF, hiv]
      show IntKind.i64.wrap ((i : Int) - 1) = _
      rw [w_i64 (by omega) (by omega)]
      omega
    have hin : F .inL ad (F .wrap .i64 (F .sub iv 1)) = some (i - 1) := by
      rw [hix, hF]
      show (if 0 ≤ ((i - 1 : Nat) : Int) ∧ ((i - 1 : Nat) : Int) < (ad.length : Int) then some ((i - 1 : Nat) : Int).toNat else none) = some (i - 1)
      rw [if_pos (by rw [had, tlDs_len]; omega), Int.toNat_natCast]
    obtain ⟨j1, hj1⟩ : ∃ z, z = i - 1 := ⟨_, rfl⟩
    rw [← hj1] at hin hpd
    conv at hpd => lhs; cbv
    refine AKt.leaf ?_
    refine AKp.drawn ?_
    refine DK.runV hF tabOK hnt hfr 0 ?_
    conv => arg 8; cbv
    rw [hb3]
    conv => arg 8; cbv
    rw [hin]
    conv => arg 8; cbv
    rw [hpd]
    conv => arg 8; cbv
    refine DK.fin (by kernel_rfl) (by decide) ?_
    refine AK.runT hF tabOK hmix hnt hfr true _ hG ?_
    conv => arg 4; cbv
    refine AKt.tt ?_
    refine AKt.node (fun hb4 => ?_) (fun hb4 => ?_)
    · have hlt4 : tt.a < at_ := by simp only [hF, f_ltI, f_leI, f_eqI, f_eqS, f_eqB, f_not, f_andB, f_orB, f_lenS, f_lenD, f_hasS, f_atS, f_hasC, f_subS, f_hasCat, f_app, f_wrap, f_add, f_sub, f_mul, f_appD, f_fits, f_hasV, f_subV, decide_eq_true_eq, decide_eq_false_iff_not, beq_iff_eq, beq_eq_false_iff_ne, Bool.and_eq_true, Bool.and_eq_false_iff, Bool.not_eq_true, Bool.not_eq_false, Bool.not_eq_eq_eq_not, Bool.not_true, Bool.not_false] at hb4; rw [hat, ← hta]; exact hb4
      rw [if_pos (.inl hlt4)] at hrun
      obtain ⟨g1, g2⟩ := Prod.mk.inj hrun
      repeat' (first | with_reducible refine AKt.have ?_ | with_reducible refine AKt.tt ?_ | with_reducible refine AKt.ff ?_ | with_reducible refine AKt.yes (by assumption) ?_ | with_reducible refine AKt.no (by assumption) ?_ | with_reducible refine AKt.node (fun hb => ?_) (fun hb => ?_) | with_reducible refine AKt.need ?_ (fun hb => ?_) | with_reducible refine AKt.leaf ?_ | ((with_reducible show _ = true); assumption))
      refine AKp.doneE tabOK hfr (by rfl) ?_
      show _ = _
      simp only [tupAV]
      rw [inc_i hF hiv (by omega), ← g1, ← g2]
      rfl
    have hnb : ¬ tt.a < at_ := by
      have h4 := hb4
      rw [hF, f_ltI] at h4
      have := of_decide_eq_false h4
      rw [hat, ← hta]
      exact this
  case' zero =>
    have h0 : i = 0 := by
      have h := hb3
      rw [hF, f_ltI, hiv] at h
      have := of_decide_eq_false h
      omega
    have hnb : ¬ tt.a < at_ := by rw [hat0 h0]; omega
  all_goals
    have had2 : ∀ t, (all ++ [tt])[i + 1 - 1]? = some t → tt.a = t.a := fun t ht => by
      rw [Nat.add_sub_cancel, ← hal, List.getElem?_append_right (Nat.le_refl _), Nat.sub_self] at ht
      cases ht
      rfl
    obtain ⟨nd, hnd⟩ : ∃ z, z = F .appD ad [.agg [.s (.int .i64 ta), .s (.int .i64 tk), .s (.int .i64 ti), .s (.str tl), .s (.int .i64 tsv), .s (.int .i64 tw), .s (.int .u64 td)]] := ⟨_, rfl⟩
    have hnd' : nd = tlDs (all ++ [tt]) := by rw [hnd, hF, f_appD, had, hta, htk, hti, htl, hts, htw, htd]; simp [tlDs, Tl.dat]
    have hft : F .fits 64 nd = true := t_fits hF (by rw [hnd', tlDs_len, List.length_append]; simp; omega)
    have good : badR (tellF all tt.i) tt = false → RB (all ++ [tt]) (noteV b tt) ∧ lookR (l.drop (i + 1)) ((i + 1 : Nat) : Int) (noteV b tt) tt.a = (R1, R2) := fun h => by
      obtain ⟨m1, m2⟩ := n2 h
      rw [if_neg (by rintro (g | g); exact hnb g; rw [m1] at g; cases g)] at hrun
      exact ⟨m2, by rw [← hrun]; congr 1⟩
    have bad : badR (tellF all tt.i) tt = true → (i : Int) + 1 = R1 ∧ 13 = R2 := fun h => by
      rw [if_pos (.inr (n1 h))] at hrun
      exact Prod.mk.inj hrun
    refine AKt.node (fun hb5 => ?_) (fun hb5 => ?_)
    rotate_left
    · have c : ¬ tt.k < 6 := by rw [← htk]; simp only [hF, f_ltI, f_leI, f_eqI, f_eqS, f_eqB, f_not, f_andB, f_orB, f_lenS, f_lenD, f_hasS, f_atS, f_hasC, f_subS, f_hasCat, f_app, f_wrap, f_add, f_sub, f_mul, f_appD, f_fits, f_hasV, f_subV, decide_eq_true_eq, decide_eq_false_iff_not, beq_iff_eq, beq_eq_false_iff_ne, Bool.and_eq_true, Bool.and_eq_false_iff, Bool.not_eq_true, Bool.not_eq_false, Bool.not_eq_eq_eq_not, Bool.not_true, Bool.not_false] at hb5; omega
      obtain ⟨m1, m2⟩ := good (by rw [badR, decide_eq_false c]; rfl)
      rw [← hnd]
      repeat' (first | with_reducible refine AKt.have ?_ | with_reducible refine AKt.tt ?_ | with_reducible refine AKt.ff ?_ | with_reducible refine AKt.yes (by assumption) ?_ | with_reducible refine AKt.no (by assumption) ?_ | with_reducible refine AKt.node (fun hb => ?_) (fun hb => ?_) | with_reducible refine AKt.need ?_ (fun hb => ?_) | with_reducible refine AKt.leaf ?_ | ((with_reducible show _ = true); assumption))
      refine AKp.againR [(0, 2)] _ hfr (by repeat (first | exact True.intro | refine ⟨⟨rfl, rfl⟩, ?_⟩)) (by repeat (first | exact True.intro | refine ⟨⟨Nat.le_of_ble_eq_true rfl, rfl, rfl⟩, ?_⟩)) rfl (hJ (n - 1) _ _ (by omega) ⟨i + 1, _, tt.a, _, all ++ [tt], _, by omega, inc_i hF hiv (by omega), hnd', by simp; omega, m1, fun h => absurd h (by omega), had2, m2, rfl, rfl⟩)
    have c6 : tt.k < 6 := by rw [← htk]; simp only [hF, f_ltI, f_leI, f_eqI, f_eqS, f_eqB, f_not, f_andB, f_orB, f_lenS, f_lenD, f_hasS, f_atS, f_hasC, f_subS, f_hasCat, f_app, f_wrap, f_add, f_sub, f_mul, f_appD, f_fits, f_hasV, f_subV, decide_eq_true_eq, decide_eq_false_iff_not, beq_iff_eq, beq_eq_false_iff_ne, Bool.and_eq_true, Bool.and_eq_false_iff, Bool.not_eq_true, Bool.not_eq_false, Bool.not_eq_eq_eq_not, Bool.not_true, Bool.not_false] at hb5; exact hb5
    clear hb5 hrun n1 n2
    have lenA : F .lenD ad = (all.length : Int) := by rw [hF, f_lenD, had, tlDs_len]
    repeat' (first | with_reducible refine AKt.have ?_ | with_reducible refine AKt.tt ?_ | with_reducible refine AKt.ff ?_ | with_reducible refine AKt.yes (by assumption) ?_ | with_reducible refine AKt.no (by assumption) ?_ | with_reducible refine AKt.node (fun hb => ?_) (fun hb => ?_) | with_reducible refine AKt.need ?_ (fun hb => ?_) | with_reducible refine AKt.leaf ?_ | ((with_reducible show _ = true); assumption))
    refine AKp.enterLoop 13 ?_
    conv => arg 7; cbv
    refine AKl.invT hF tabOK hmix hnt hfr true _ hG (fun m vs hs => ∃ (k : Nat) (kv c : Int) (sb : Bool) (lv : List UInt8), k + m = all.length ∧ kv = k ∧ (⟨c, sb, lv⟩ : Ts) = tellF (all.take k) ti ∧ vs = [(12, .d (.s (.int .i64 kv))), (9, .d (.s (.bool sb))), (10, .d (.s (.int .i64 c))), (11, .d (.s (.str lv)))] ∧ hs = [(1, .cs 37 [.d (.s (.int .i64 ta)), .d (.s (.int .i64 tk)), .d (.s (.int .i64 ti)), .d (.s (.str tl)), .d (.s (.int .i64 tsv)), .d (.s (.int .i64 tw)), .d (.s (.int .u64 td))]), (0, .ds 37 7 ad)]) all.length ⟨0, _, _, _, _, by omega, rfl, rfl, rfl, rfl⟩ (by repeat (first | exact True.intro | refine ⟨⟨rfl, rfl⟩, ?_⟩)) (by repeat (first | exact True.intro | refine ⟨⟨rfl, rfl, rfl⟩, ?_⟩)) ?_
    rintro J2 m vs hs hJ2 ⟨k, kv, c, sb, lv, hk, hkv, htell, rfl, rfl⟩
    conv => arg 4; cbv
    refine AKt.node (fun hb6 => ?_) (fun hb6 => ?_)
    · have hlt2 : k < all.length := by rw [lenA, hkv] at hb6; simp only [hF, f_ltI, f_leI, f_eqI, f_eqS, f_eqB, f_not, f_andB, f_orB, f_lenS, f_lenD, f_hasS, f_atS, f_hasC, f_subS, f_hasCat, f_app, f_wrap, f_add, f_sub, f_mul, f_appD, f_fits, f_hasV, f_subV, decide_eq_true_eq, decide_eq_false_iff_not, beq_iff_eq, beq_eq_false_iff_ne, Bool.and_eq_true, Bool.and_eq_false_iff, Bool.not_eq_true, Bool.not_eq_false, Bool.not_eq_eq_eq_not, Bool.not_true, Bool.not_false] at hb6; omega
      obtain ⟨pt, hpt⟩ : ∃ t, all[k]? = some t := ⟨_, List.getElem?_eq_getElem hlt2⟩
      obtain ⟨va, vk, vi, vl, vs_, vw, vd⟩ := pt
      have hpd : ad[k]? = some (.agg [.s (.int .i64 va), .s (.int .i64 vk), .s (.int .i64 vi), .s (.str vl), .s (.int .i64 vs_), .s (.int .i64 vw), .s (.int .u64 vd)]) := by rw [had, tlDs, List.getElem?_map, hpt]; rfl
      have hin : F .inL ad kv = some k := by
        rw [hkv, hF]
        show (if 0 ≤ (k : Int) ∧ (k : Int) < (ad.length : Int) then some (k : Int).toNat else none) = some k
        rw [if_pos (by rw [had, tlDs_len]; omega), Int.toNat_natCast]
      conv at hpd => lhs; cbv
      have tk1 : all.take (k + 1) = all.take k ++ [⟨va, vk, vi, vl, vs_, vw, vd⟩] := by rw [List.take_add_one, hpt]; rfl
      have same : ¬ (vk < 6 ∧ vi = ti) → (⟨c, sb, lv⟩ : Ts) = tellF (all.take (k + 1)) ti := fun h => by
        rw [tk1, tellF_snoc, ← htell, tellS, if_neg h]
      have more : vk < 6 → vi = ti → (⟨c + 1, decide (vk = 1), vl⟩ : Ts) = tellF (all.take (k + 1)) ti := fun g1 g2 => by
        rw [tk1, tellF_snoc, ← htell, tellS, if_pos ⟨g1, g2⟩]
      cases hbk : F .ltI vk 6 with
      | false =>
        have hno : ¬ vk < 6 := by rw [hF, f_ltI] at hbk; exact of_decide_eq_false hbk
        refine AKt.leaf ?_
        refine AKp.drawn ?_
        refine DK.runV hF tabOK hnt hfr 0 ?_
        conv => arg 8; cbv
        rw [hin]
        conv => arg 8; cbv
        rw [hpd]
        conv => arg 8; cbv
        rw [hbk]
        conv => arg 8; cbv
        refine DK.fin (by kernel_rfl) (by decide) ?_
        refine AK.runT hF tabOK hmix hnt hfr true _ hG ?_
        conv => arg 4; cbv
        refine AKt.ff ?_
        repeat' (first | with_reducible refine AKt.have ?_ | with_reducible refine AKt.tt ?_ | with_reducible refine AKt.ff ?_ | with_reducible refine AKt.yes (by assumption) ?_ | with_reducible refine AKt.no (by assumption) ?_ | with_reducible refine AKt.node (fun hb => ?_) (fun hb => ?_) | with_reducible refine AKt.need ?_ (fun hb => ?_) | with_reducible refine AKt.leaf ?_ | ((with_reducible show _ = true); assumption))
        refine AKp.again _ hfr (by repeat (first | exact True.intro | refine ⟨⟨rfl, rfl⟩, ?_⟩)) (by repeat (first | exact True.intro | refine ⟨⟨rfl, rfl, rfl⟩, ?_⟩)) (hJ2 (m - 1) _ _ (by omega) ⟨k + 1, _, _, _, _, by omega, inc_i hF hkv (by omega), same fun h => hno h.1, rfl, rfl⟩)
      | true =>
        have hyes : vk < 6 := by rw [hF, f_ltI] at hbk; exact of_decide_eq_true hbk
        refine AKt.leaf ?_
        refine AKp.drawn ?_
        refine DK.runV hF tabOK hnt hfr 0 ?_
        conv => arg 8; cbv
        rw [hin]
        conv => arg 8; cbv
        rw [hpd]
        conv => arg 8; cbv
        rw [hbk]
        conv => arg 8; cbv
        rw [hin]
        conv => arg 8; cbv
        rw [hpd]
        conv => arg 8; cbv
        refine DK.fin (by kernel_rfl) (by decide) ?_
        refine AK.runT hF tabOK hmix hnt hfr true _ hG ?_
        conv => arg 4; cbv
        refine AKt.tt ?_
        refine AKt.node (fun hb7 => ?_) (fun hb7 => ?_)
        · have heq : vi = ti := by rw [hF, f_eqI] at hb7; simpa using hb7
          refine AKt.leaf ?_
          refine AKp.stepO hF tabOK hnt rfl ?_
          conv => arg 5; cbv
          rw [hin]
          conv => arg 5; cbv
          refine .some ?_
          refine AK.runT hF tabOK hmix hnt hfr true _ hG ?_
          conv => arg 4; cbv
          rw [hpd]
          conv => arg 4; cbv
          refine AKt.leaf ?_
          refine AKp.stepO hF tabOK hnt rfl ?_
          conv => arg 5; cbv
          rw [hin]
          conv => arg 5; cbv
          refine .some ?_
          refine AK.runT hF tabOK hmix hnt hfr true _ hG ?_
          conv => arg 4; cbv
          rw [hpd]
          conv => arg 4; cbv
          have hcb := tellF_nn (all.take k) ti
          rw [← htell] at hcb
          have hc1 : F .wrap .i64 (F .add c 1) = c + 1 := by
            have h1 : 0 ≤ c := hcb.1
            have h2 : c ≤ ((all.take k).length : Int) := hcb.2
            rw [List.length_take] at h2
            rw [hF]
            show IntKind.i64.wrap (c + 1) = c + 1
            exact w_i64 (by omega) (by omega)
          have hs1 : F .eqI vk 1 = decide (vk = 1) := by
            rw [hF, f_eqI]
            by_cases e : vk = 1 <;> simp [e]
          have mo := more hyes heq
          rw [← hc1, ← hs1] at mo
          repeat' (first | with_reducible refine AKt.have ?_ | with_reducible refine AKt.tt ?_ | with_reducible refine AKt.ff ?_ | with_reducible refine AKt.yes (by assumption) ?_ | with_reducible refine AKt.no (by assumption) ?_ | with_reducible refine AKt.node (fun hb => ?_) (fun hb => ?_) | with_reducible refine AKt.need ?_ (fun hb => ?_) | with_reducible refine AKt.leaf ?_ | ((with_reducible show _ = true); assumption))
          refine AKp.again _ hfr (by repeat (first | exact True.intro | refine ⟨⟨rfl, rfl⟩, ?_⟩)) (by repeat (first | exact True.intro | refine ⟨⟨rfl, rfl, rfl⟩, ?_⟩)) (hJ2 (m - 1) _ _ (by omega) ⟨k + 1, _, _, _, _, by omega, inc_i hF hkv (by omega), mo, rfl, rfl⟩)
        · have hne : ¬ vi = ti := by rw [hF, f_eqI] at hb7; simpa using hb7
          repeat' (first | with_reducible refine AKt.have ?_ | with_reducible refine AKt.tt ?_ | with_reducible refine AKt.ff ?_ | with_reducible refine AKt.yes (by assumption) ?_ | with_reducible refine AKt.no (by assumption) ?_ | with_reducible refine AKt.node (fun hb => ?_) (fun hb => ?_) | with_reducible refine AKt.need ?_ (fun hb => ?_) | with_reducible refine AKt.leaf ?_ | ((with_reducible show _ = true); assumption))
          refine AKp.again _ hfr (by repeat (first | exact True.intro | refine ⟨⟨rfl, rfl⟩, ?_⟩)) (by repeat (first | exact True.intro | refine ⟨⟨rfl, rfl, rfl⟩, ?_⟩)) (hJ2 (m - 1) _ _ (by omega) ⟨k + 1, _, _, _, _, by omega, inc_i hF hkv (by omega), same fun h => hne h.2, rfl, rfl⟩)
    · have hge : ¬ k < all.length := by rw [lenA, hkv] at hb6; simp only [hF, f_ltI, f_leI, f_eqI, f_eqS, f_eqB, f_not, f_andB, f_orB, f_lenS, f_lenD, f_hasS, f_atS, f_hasC, f_subS, f_hasCat, f_app, f_wrap, f_add, f_sub, f_mul, f_appD, f_fits, f_hasV, f_subV, decide_eq_true_eq, decide_eq_false_iff_not, beq_iff_eq, beq_eq_false_iff_ne, Bool.and_eq_true, Bool.and_eq_false_iff, Bool.not_eq_true, Bool.not_eq_false, Bool.not_eq_eq_eq_not, Bool.not_true, Bool.not_false] at hb6; omega
      rw [List.take_of_length_le (by omega)] at htell
      have hbr : badR (tellF all tt.i) tt = (decide (¬ tk = 5 ∧ 0 < c) || decide (tk = 5 ∧ (¬ c = 1 ∨ sb = false ∨ ¬ lv = tl))) := by
        rw [← hti, ← htell, badR, decide_eq_true c6, Bool.true_and, ← htk, ← htl]
      rw [← hnd]
      by_cases c5 : tk = 5
      · have b5 : F .eqI tk 5 = true := by rw [hF, f_eqI]; simpa using c5
        have nb5 : F .not (F .eqI tk 5) = false := by rw [b5, l_not1 hF]
        refine AKt.no nb5 ?_
        refine AKt.yes b5 ?_
        refine AKt.node (fun h1 => ?_) (fun h1 => ?_)
        · have d1 : ¬ c = 1 := by simp only [hF, f_ltI, f_leI, f_eqI, f_eqS, f_eqB, f_not, f_andB, f_orB, f_lenS, f_lenD, f_hasS, f_atS, f_hasC, f_subS, f_hasCat, f_app, f_wrap, f_add, f_sub, f_mul, f_appD, f_fits, f_hasV, f_subV, decide_eq_true_eq, decide_eq_false_iff_not, beq_iff_eq, beq_eq_false_iff_ne, Bool.and_eq_true, Bool.and_eq_false_iff, Bool.not_eq_true, Bool.not_eq_false, Bool.not_eq_eq_eq_not, Bool.not_true, Bool.not_false] at h1; exact h1
          obtain ⟨g1, g2⟩ := bad (by rw [hbr]; simp [c5, d1])
          repeat' (first | with_reducible refine AKt.have ?_ | with_reducible refine AKt.tt ?_ | with_reducible refine AKt.ff ?_ | with_reducible refine AKt.yes (by assumption) ?_ | with_reducible refine AKt.no (by assumption) ?_ | with_reducible refine AKt.node (fun hb => ?_) (fun hb => ?_) | with_reducible refine AKt.need ?_ (fun hb => ?_) | with_reducible refine AKt.leaf ?_ | ((with_reducible show _ = true); assumption))
          refine AKp.doneE tabOK hfr (by rfl) ?_
          show _ = _
          simp only [tupAV]
          rw [inc_i hF hiv (by omega), ← g1, ← g2]
          rfl
        have d1 : c = 1 := by simp only [hF, f_ltI, f_leI, f_eqI, f_eqS, f_eqB, f_not, f_andB, f_orB, f_lenS, f_lenD, f_hasS, f_atS, f_hasC, f_subS, f_hasCat, f_app, f_wrap, f_add, f_sub, f_mul, f_appD, f_fits, f_hasV, f_subV, decide_eq_true_eq, decide_eq_false_iff_not, beq_iff_eq, beq_eq_false_iff_ne, Bool.and_eq_true, Bool.and_eq_false_iff, Bool.not_eq_true, Bool.not_eq_false, Bool.not_eq_eq_eq_not, Bool.not_true, Bool.not_false] at h1; exact h1
        refine AKt.node (fun h2 => ?_) (fun h2 => ?_)
        · have d2 : sb = false := by simp only [hF, f_ltI, f_leI, f_eqI, f_eqS, f_eqB, f_not, f_andB, f_orB, f_lenS, f_lenD, f_hasS, f_atS, f_hasC, f_subS, f_hasCat, f_app, f_wrap, f_add, f_sub, f_mul, f_appD, f_fits, f_hasV, f_subV, decide_eq_true_eq, decide_eq_false_iff_not, beq_iff_eq, beq_eq_false_iff_ne, Bool.and_eq_true, Bool.and_eq_false_iff, Bool.not_eq_true, Bool.not_eq_false, Bool.not_eq_eq_eq_not, Bool.not_true, Bool.not_false] at h2; simpa using h2
          obtain ⟨g1, g2⟩ := bad (by rw [hbr]; simp [c5, d2])
          repeat' (first | with_reducible refine AKt.have ?_ | with_reducible refine AKt.tt ?_ | with_reducible refine AKt.ff ?_ | with_reducible refine AKt.yes (by assumption) ?_ | with_reducible refine AKt.no (by assumption) ?_ | with_reducible refine AKt.node (fun hb => ?_) (fun hb => ?_) | with_reducible refine AKt.need ?_ (fun hb => ?_) | with_reducible refine AKt.leaf ?_ | ((with_reducible show _ = true); assumption))
          refine AKp.doneE tabOK hfr (by rfl) ?_
          show _ = _
          simp only [tupAV]
          rw [inc_i hF hiv (by omega), ← g1, ← g2]
          rfl
        have d2 : sb = true := by simp only [hF, f_ltI, f_leI, f_eqI, f_eqS, f_eqB, f_not, f_andB, f_orB, f_lenS, f_lenD, f_hasS, f_atS, f_hasC, f_subS, f_hasCat, f_app, f_wrap, f_add, f_sub, f_mul, f_appD, f_fits, f_hasV, f_subV, decide_eq_true_eq, decide_eq_false_iff_not, beq_iff_eq, beq_eq_false_iff_ne, Bool.and_eq_true, Bool.and_eq_false_iff, Bool.not_eq_true, Bool.not_eq_false, Bool.not_eq_eq_eq_not, Bool.not_true, Bool.not_false] at h2; simpa using h2
        refine AKt.node (fun h3 => ?_) (fun h3 => ?_)
        · have d3 : ¬ lv = tl := by simp only [hF, f_ltI, f_leI, f_eqI, f_eqS, f_eqB, f_not, f_andB, f_orB, f_lenS, f_lenD, f_hasS, f_atS, f_hasC, f_subS, f_hasCat, f_app, f_wrap, f_add, f_sub, f_mul, f_appD, f_fits, f_hasV, f_subV, decide_eq_true_eq, decide_eq_false_iff_not, beq_iff_eq, beq_eq_false_iff_ne, Bool.and_eq_true, Bool.and_eq_false_iff, Bool.not_eq_true, Bool.not_eq_false, Bool.not_eq_eq_eq_not, Bool.not_true, Bool.not_false] at h3; exact h3
          obtain ⟨g1, g2⟩ := bad (by rw [hbr]; simp [c5, d3])
          repeat' (first | with_reducible refine AKt.have ?_ | with_reducible refine AKt.tt ?_ | with_reducible refine AKt.ff ?_ | with_reducible refine AKt.yes (by assumption) ?_ | with_reducible refine AKt.no (by assumption) ?_ | with_reducible refine AKt.node (fun hb => ?_) (fun hb => ?_) | with_reducible refine AKt.need ?_ (fun hb => ?_) | with_reducible refine AKt.leaf ?_ | ((with_reducible show _ = true); assumption))
          refine AKp.doneE tabOK hfr (by rfl) ?_
          show _ = _
          simp only [tupAV]
          rw [inc_i hF hiv (by omega), ← g1, ← g2]
          rfl
        · have d3 : lv = tl := by simp only [hF, f_ltI, f_leI, f_eqI, f_eqS, f_eqB, f_not, f_andB, f_orB, f_lenS, f_lenD, f_hasS, f_atS, f_hasC, f_subS, f_hasCat, f_app, f_wrap, f_add, f_sub, f_mul, f_appD, f_fits, f_hasV, f_subV, decide_eq_true_eq, decide_eq_false_iff_not, beq_iff_eq, beq_eq_false_iff_ne, Bool.and_eq_true, Bool.and_eq_false_iff, Bool.not_eq_true, Bool.not_eq_false, Bool.not_eq_eq_eq_not, Bool.not_true, Bool.not_false] at h3; exact h3
          obtain ⟨m1, m2⟩ := good (by rw [hbr]; simp [c5, d1, d2, d3])
          repeat' (first | with_reducible refine AKt.have ?_ | with_reducible refine AKt.tt ?_ | with_reducible refine AKt.ff ?_ | with_reducible refine AKt.yes (by assumption) ?_ | with_reducible refine AKt.no (by assumption) ?_ | with_reducible refine AKt.node (fun hb => ?_) (fun hb => ?_) | with_reducible refine AKt.need ?_ (fun hb => ?_) | with_reducible refine AKt.leaf ?_ | ((with_reducible show _ = true); assumption))
          refine AKp.againR [(0, 2)] _ hfr (by repeat (first | exact True.intro | refine ⟨⟨rfl, rfl⟩, ?_⟩)) (by repeat (first | exact True.intro | refine ⟨⟨Nat.le_of_ble_eq_true rfl, rfl, rfl⟩, ?_⟩)) rfl (hJ (n - 1) _ _ (by omega) ⟨i + 1, _, tt.a, _, all ++ [tt], _, by omega, inc_i hF hiv (by omega), hnd', by simp; omega, m1, fun h => absurd h (by omega), had2, m2, rfl, rfl⟩)
      · have b5 : F .eqI tk 5 = false := by rw [hF, f_eqI]; simpa using c5
        have nb5 : F .not (F .eqI tk 5) = true := by rw [b5, hF]; rfl
        refine AKt.yes nb5 ?_
        refine AKt.node (fun h1 => ?_) (fun h1 => ?_)
        · have d1 : 0 < c := by simp only [hF, f_ltI, f_leI, f_eqI, f_eqS, f_eqB, f_not, f_andB, f_orB, f_lenS, f_lenD, f_hasS, f_atS, f_hasC, f_subS, f_hasCat, f_app, f_wrap, f_add, f_sub, f_mul, f_appD, f_fits, f_hasV, f_subV, decide_eq_true_eq, decide_eq_false_iff_not, beq_iff_eq, beq_eq_false_iff_ne, Bool.and_eq_true, Bool.and_eq_false_iff, Bool.not_eq_true, Bool.not_eq_false, Bool.not_eq_eq_eq_not, Bool.not_true, Bool.not_false] at h1; exact h1
          obtain ⟨g1, g2⟩ := bad (by rw [hbr]; simp [c5, d1])
          repeat' (first | with_reducible refine AKt.have ?_ | with_reducible refine AKt.tt ?_ | with_reducible refine AKt.ff ?_ | with_reducible refine AKt.yes (by assumption) ?_ | with_reducible refine AKt.no (by assumption) ?_ | with_reducible refine AKt.node (fun hb => ?_) (fun hb => ?_) | with_reducible refine AKt.need ?_ (fun hb => ?_) | with_reducible refine AKt.leaf ?_ | ((with_reducible show _ = true); assumption))
          refine AKp.doneE tabOK hfr (by rfl) ?_
          show _ = _
          simp only [tupAV]
          rw [inc_i hF hiv (by omega), ← g1, ← g2]
          rfl
        · have d1 : ¬ 0 < c := by simp only [hF, f_ltI, f_leI, f_eqI, f_eqS, f_eqB, f_not, f_andB, f_orB, f_lenS, f_lenD, f_hasS, f_atS, f_hasC, f_subS, f_hasCat, f_app, f_wrap, f_add, f_sub, f_mul, f_appD, f_fits, f_hasV, f_subV, decide_eq_true_eq, decide_eq_false_iff_not, beq_iff_eq, beq_eq_false_iff_ne, Bool.and_eq_true, Bool.and_eq_false_iff, Bool.not_eq_true, Bool.not_eq_false, Bool.not_eq_eq_eq_not, Bool.not_true, Bool.not_false] at h1; omega
          obtain ⟨m1, m2⟩ := good (by rw [hbr]; simp [c5, d1])
          repeat' (first | with_reducible refine AKt.have ?_ | with_reducible refine AKt.tt ?_ | with_reducible refine AKt.ff ?_ | with_reducible refine AKt.yes (by assumption) ?_ | with_reducible refine AKt.no (by assumption) ?_ | with_reducible refine AKt.node (fun hb => ?_) (fun hb => ?_) | with_reducible refine AKt.need ?_ (fun hb => ?_) | with_reducible refine AKt.leaf ?_ | ((with_reducible show _ = true); assumption))
          refine AKp.againR [(0, 2)] _ hfr (by repeat (first | exact True.intro | refine ⟨⟨rfl, rfl⟩, ?_⟩)) (by repeat (first | exact True.intro | refine ⟨⟨Nat.le_of_ble_eq_true rfl, rfl, rfl⟩, ?_⟩)) rfl (hJ (n - 1) _ _ (by omega) ⟨i + 1, _, tt.a, _, all ++ [tt], _, by omega, inc_i hF hiv (by omega), hnd', by simp; omega, m1, fun h => absurd h (by omega), had2, m2, rfl, rfl⟩)
def φRefLook (p : List UInt8 → Bool) (u e : List UInt8 → Int) : List AV → Option (Bool × AV)
  | [.d (.s (.str s))] => some (p s, .tup [.d (.s (.int .i64 (u s))), .d (.s (.int .i64 (e s)))])
  | _ => none
theorem φRefLook_ok : SpOK Tryd.prog 10 (φRefLook (le4) (fun s => (lookF s).1) (fun s => (lookF s).2)) := by
  intro xs b x h hb
  unfold φRefLook at h
  split at h
  · simp only [Option.some.injEq, Prod.mk.injEq] at h
    obtain ⟨rfl, rfl⟩ := h
    exact RefLook_spec _ hb
  · cases h
end Go.Proofs.YtlcgjeafmbbipaaDoor
