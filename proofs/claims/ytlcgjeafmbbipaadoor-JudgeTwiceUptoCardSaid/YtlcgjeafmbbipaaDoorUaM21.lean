/- The library of this claim and its walks, part 21, joined out of smaller texts. No statement stands in it. -/
import Derived.Test.YtlcgjeafmbbipaaDoorUaM20
import Derived.Test.YtlcgjeafmbbipaaDoorRows
/- How much a reading is: what the bound of an Upto row gives. -/
namespace Go.Proofs.YtlcgjeafmbbipaaDoor
open Go Go.Proofs Go.Ua
set_option linter.unusedVariables false
set_option linter.unusedSimpArgs false

def bulkS : Sc → Nat
  | .str s => s.length + 1
  | _ => 1
mutual
def bulk1 : Dat → Nat
  | .s x => bulkS x
  | .agg cs => bulkL cs
  | .view _ es => bulkL es + 1
  | .iface _ _ => 0
  | .vref _ => 0
def bulkL : List Dat → Nat
  | [] => 0
  | d :: r => bulk1 d + bulkL r
end
theorem bulkL_app (a b : List Dat) : bulkL (a ++ b) = bulkL a + bulkL b := by
  induction a with
  | nil => simp [bulkL]
  | cons x a ih => simp only [List.cons_append, bulkL, ih]; omega
theorem bulk_one (ag : Bool) (l : List Dat) : bulk1 (oneD ag l) ≤ bulkL l := by
  cases ag with
  | true => exact Nat.le_of_eq (by simp [oneD, bulk1])
  | false =>
    cases l with
    | nil => simp [oneD, bulk1, bulkL]
    | cons x l => simp only [oneD, List.headD_cons, bulkL]; omega
theorem bulk_map {H : Type} (g : DataW H → Dat) : ∀ es : List (DataW H), (∀ x, x ∈ es → bulk1 (g x) ≤ Rows.uptoBulk x) → bulkL (es.map g) ≤ Rows.uptoBulkAll es
  | [], _ => by simp [bulkL]
  | x :: es, h => by
    have h1 := h x (by simp)
    have h2 := bulk_map g es fun y hy => h y (List.mem_cons_of_mem _ hy)
    simp only [List.map_cons, bulkL, Rows.uptoBulkAll]
    omega
theorem bulk_zip {H : Type} (g : (Nat × TypeId) → DataW H → List Dat) : ∀ (fs : List (Nat × TypeId)) (es : List (DataW H)), (∀ f x, x ∈ es → bulkL (g f x) ≤ Rows.uptoBulk x) → bulkL (((fs.zip es).map fun p => g p.1 p.2).flatten) ≤ Rows.uptoBulkAll es
  | [], es, _ => by simp [bulkL]
  | f :: fs, [], _ => by simp [bulkL]
  | f :: fs, x :: es, h => by
    have h1 := h f x (by simp)
    have h2 := bulk_zip g fs es fun f y hy => h f y (List.mem_cons_of_mem _ hy)
    simp only [List.zip_cons_cons, List.map_cons, List.flatten_cons, bulkL_app, Rows.uptoBulkAll]
    omega
theorem bulk_dat {H : Type} (τ : Tab) : ∀ (f : Nat) (t : TypeId) (d : DataW H), bulkL (datOf τ f t d) ≤ Rows.uptoBulk d
  | 0, t, d => by simp [datOf, bulkL]
  | f + 1, t, d => by
    unfold datOf
    split
    · simp [bulkL]
    · split
      · simp [bulkL, bulk1, bulkS, Rows.uptoBulk]
      · simp [bulkL, bulk1, bulkS, Rows.uptoBulk]
      · simp [bulkL, bulk1, bulkS, Rows.uptoBulk]
      · simp [bulkL, bulk1, Rows.uptoBulk]
      · rename_i e es sp _
        have := bulk_map (fun x => oneD (aggAt τ e) (datOf τ f e x)) es fun x _ => Nat.le_trans (bulk_one _ _) (bulk_dat τ f e x)
        simp only [bulkL, bulk1, Rows.uptoBulk]
        omega
      · rename_i fs ps _
        have := bulk_zip (fun p x => datOf τ f p.2 x) fs ps fun p x _ => bulk_dat τ f p.2 x
        simp only [Rows.uptoBulk]
        omega
      · simp [bulkL]
theorem bulk_in {H : Type} {d : DataW H} {l : List (DataW H)} (h : d ∈ l) : Rows.uptoBulk d ≤ Rows.uptoBulkAll l := by
  induction l with
  | nil => cases h
  | cons x r ih =>
    simp only [Rows.uptoBulkAll]
    rcases List.mem_cons.1 h with e | e
    · subst e; omega
    · have := ih e; omega
theorem bulk_of {H : Type} {τ : Tab} {f : Nat} {t : TypeId} {d : DataW H} {l : List (DataW H)} {x : List Dat} (hk : Rows.uptoSmall H l = true) (h : d ∈ l) (hx : datOf τ f t d = x) : bulkL x ≤ 1048576 := by
  have h1 : Rows.uptoBulkAll l ≤ 1048576 := of_decide_eq_true hk
  rw [← hx]
  exact Nat.le_trans (bulk_dat τ f t d) (Nat.le_trans (bulk_in h) h1)
theorem bulk_str {s : List UInt8} (h : bulkL [.s (.str s)] ≤ 1048576) : s.length ≤ 1048576 := by
  simp only [bulkL, bulk1, bulkS] at h
  omega
end Go.Proofs.YtlcgjeafmbbipaaDoor

/- What cards want of lists of texts, and of texts. -/
namespace Go.Proofs.YtlcgjeafmbbipaaDoor
open Go Go.Proofs Go.Ua Go.Extern
set_option linter.unusedVariables false

theorem typed_str {f : Nat} {l : List Dat} (h : typed tab (f + 1) 9 l) : ∃ s, l = [.s (.str s)] := by
  obtain ⟨s, rfl, _⟩ := h
  exact ⟨s, rfl⟩
theorem typed_strs {f : Nat} {l : List Dat} (h : typed tab (f + 2) 29 l) : ∃ zs, l = [.view 1 (strDs zs)] := by
  obtain ⟨es, rfl, hlen, hes⟩ := h
  clear hlen
  have : ∃ zs, es = strDs zs := by
    induction es with
    | nil => exact ⟨[], rfl⟩
    | cons x es ih =>
      obtain ⟨zs, rfl⟩ := ih fun x hx => hes x (List.mem_cons_of_mem _ hx)
      obtain ⟨l', rfl, s, rfl, _⟩ := hes x (by simp)
      exact ⟨s :: zs, rfl⟩
  obtain ⟨zs, rfl⟩ := this
  exact ⟨zs, rfl⟩
end Go.Proofs.YtlcgjeafmbbipaaDoor

/- The laws as the cards want them. -/
namespace Go.Proofs.YtlcgjeafmbbipaaDoor
open Go Go.Proofs Go.Ua Go.Extern
set_option linter.unusedVariables false
set_option linter.unusedSimpArgs false

theorem JudgeBeginningU_spec (s : List UInt8) (at_ : Int) (hs : bulkL [.s (.str s)] ≤ 1048576) : ESpec Tryd.prog 4 [.d (.s (.str s)), .d (.s (.int .i64 at_))] (fun x => x = .d (.s (.bool true))) := JudgeBeginning_spec s at_ (bulk_str hs)

def toldCells (t : Tl) : List Dat := [.s (.int .i64 t.a), .s (.int .i64 t.k), .s (.int .i64 t.i), .s (.str t.lv), .s (.int .i64 t.s), .s (.int .i64 t.w), .s (.int .u64 t.d)]
theorem len7 {α : Type} {l : List α} (h : l.length = 7) : ∃ a b c d e f g, l = [a, b, c, d, e, f, g] := by
  match l, h with
  | [a, b, c, d, e, f, g], _ => exact ⟨a, b, c, d, e, f, g, rfl⟩
theorem typed_told {f : Nat} {l : List Dat} (h : typed tab (f + 2) 37 l) : ∃ t : Tl, l = toldCells t := by
  obtain ⟨ls, hlen, rfl, hall⟩ := h
  obtain ⟨a, b, c, d, e, f, g, rfl⟩ := len7 hlen
  obtain ⟨n0, rfl, _⟩ := hall 0 (0, 3) a rfl rfl
  obtain ⟨n1, rfl, _⟩ := hall 1 (1, 3) b rfl rfl
  obtain ⟨n2, rfl, _⟩ := hall 2 (2, 3) c rfl rfl
  obtain ⟨s3, rfl, _⟩ := hall 3 (3, 9) d rfl rfl
  obtain ⟨n4, rfl, _⟩ := hall 4 (4, 3) e rfl rfl
  obtain ⟨n5, rfl, _⟩ := hall 5 (5, 23) f rfl rfl
  obtain ⟨n6, rfl, _⟩ := hall 6 (6, 35) g rfl rfl
  exact ⟨⟨n0, n1, n2, s3, n4, n5, n6⟩, rfl⟩
theorem typed_tolds {f : Nat} {l : List Dat} (h : typed tab (f + 3) 32 l) : ∃ ts, l = [.view 7 (tlDs ts)] := by
  obtain ⟨es, rfl, hlen, hes⟩ := h
  clear hlen
  have : ∃ ts, es = tlDs ts := by
    induction es with
    | nil => exact ⟨[], rfl⟩
    | cons x es ih =>
      obtain ⟨ts, rfl⟩ := ih fun x hx => hes x (List.mem_cons_of_mem _ hx)
      obtain ⟨l', rfl, h2⟩ := hes x (by simp)
      obtain ⟨t, rfl⟩ := typed_told h2
      exact ⟨t :: ts, rfl⟩
  obtain ⟨ts, rfl⟩ := this
  exact ⟨ts, rfl⟩
theorem bulk_told {ts : List Tl} (h : bulkL [.view 7 (tlDs ts)] ≤ 1048576) : ∀ t, t ∈ ts → t.lv.length ≤ 1200000 := by
  have key : ∀ (l : List Tl) (t : Tl), t ∈ l → t.lv.length ≤ bulkL (tlDs l) := by
    intro l
    induction l with
    | nil => intro t h; cases h
    | cons x l ih =>
      intro t h
      have e : bulkL (tlDs (x :: l)) = bulk1 x.dat + bulkL (tlDs l) := rfl
      rw [e]
      rcases List.mem_cons.1 h with h | h
      · subst h
        simp only [Tl.dat, bulk1, bulkL, bulkS]
        omega
      · have := ih t h; omega
  intro t ht
  have h1 := key ts t ht
  simp only [bulkL, bulk1] at h
  omega
theorem JudgeApartU_spec (ts : List Tl) (id : Int) (h : bulkL [.view 7 (tlDs ts)] ≤ 1048576) : ESpec Tryd.prog 6 [.d (.view 7 (tlDs ts)), .d (.s (.int .i64 id))] (fun x => x = .d (.s (.bool true))) := JudgeApart_spec ts id (bulk_told h)
end Go.Proofs.YtlcgjeafmbbipaaDoor

/- A line of a request that stands twice. -/
namespace Go.Proofs.YtlcgjeafmbbipaaDoor
open Go Go.Proofs Go.Ua Go.Extern
set_option linter.unusedVariables false
set_option linter.unusedSimpArgs false
set_option maxRecDepth 10000

theorem twice_not {a b : List Tl} {t : Tl} (h : t ∈ a ++ b) : seqB (a ++ t :: b) = false := by
  match a, b, h with
  | [], [], h => cases h
  | [], [y], h =>
    rw [List.nil_append, List.mem_singleton] at h
    subst h
    show (decide (t.k = 1) && (decide (t.k = 5) && _)) = false
    by_cases c : t.k = 1
    · rw [decide_eq_false (show ¬ t.k = 5 by omega)]; simp
    · rw [decide_eq_false c]; rfl
  | [], y :: z :: r, h => rfl
  | [x], [], h =>
    rw [List.append_nil, List.mem_singleton] at h
    subst h
    show (decide (t.k = 1) && (decide (t.k = 5) && _)) = false
    by_cases c : t.k = 1
    · rw [decide_eq_false (show ¬ t.k = 5 by omega)]; simp
    · rw [decide_eq_false c]; rfl
  | [x], y :: r, h => rfl
  | x :: y :: [], r, h => rfl
  | x :: y :: z :: l, r, h => rfl
theorem twice_bad {l : List Tl} {t : Tl} {k : Nat} (ht : t ∈ l) (hk : t.k < 6) : ¬ okT29 (l.take k ++ t :: l.drop k) := fun h => by
  have h1 := h.2 t.i
  have hs : selB t.i t = true := decide_eq_true ⟨hk, rfl⟩
  rw [List.filter_append, List.filter_cons, if_pos hs, twice_not] at h1
  · cases h1
  · rw [← List.filter_append, List.take_append_drop]
    exact List.mem_filter.2 ⟨ht, hs⟩

set_option maxRecDepth 10000 in
theorem JudgeTwice_spec (ts : List Tl) (wh wr : Int) (hts : ∀ t, t ∈ ts → t.lv.length ≤ 1200000) : ESpec Tryd.prog 5 [.d (.view 7 (tlDs ts)), .d (.s (.int .i64 wh)), .d (.s (.int .i64 wr))] (fun x => x = .d (.s (.bool true))) := by
  obtain ⟨uLines29, huLines29⟩ : ∃ u : List Dat → Bool, u = tsP := ⟨_, rfl⟩
  obtain ⟨uLines291, huLines291⟩ : ∃ u : List Dat → List UInt8, u = fun es => linesS (unTs es) := ⟨_, rfl⟩
  obtain ⟨uLines292, huLines292⟩ : ∃ u : List Dat → Bool, u = fun es => wOK (unTs es) := ⟨_, rfl⟩
  obtain ⟨uLook, huLook⟩ : ∃ u : List UInt8 → Bool, u = leL := ⟨_, rfl⟩
  obtain ⟨uLook1, huLook1⟩ : ∃ u : List UInt8 → Int, u = fun s => (lookF s).1 := ⟨_, rfl⟩
  obtain ⟨uLook2, huLook2⟩ : ∃ u : List UInt8 → Int, u = fun s => (lookF s).2 := ⟨_, rfl⟩
  have hG : TblOK Tryd.prog [(8, .p (φAwake29 )), (12, .p (φLines29 uLines29 uLines291 uLines292)), (9, .p (φLook uLook uLook1 uLook2))] := ⟨φAwake29_ok, (by rw [huLines29, huLines291, huLines292]; exact φLines29_ok), (by rw [huLook, huLook1, huLook2]; exact φLook_ok), trivial⟩
  obtain ⟨es, hes⟩ : ∃ z, z = tlDs ts := ⟨_, rfl⟩
  rw [← hes]
  refine ESpec.enter Tryd.func5 (by kernel_rfl) rfl (Nat.le_of_ble_eq_true rfl) fun hok cx hnt hfr => ?_
  obtain ⟨F, hF⟩ := real_ex
  refine AK.runT hF tabOK hmix hnt hfr false _ hG ?_
  conv => arg 4; cbv
  have hlen : es.length ≤ 9223372036854775807 := hok.1.1
  have hel0 : es.length = ts.length := by rw [hes, tlDs_len]
  obtain ⟨l, hl⟩ : ∃ z, z = ts.take 100 := ⟨_, rfl⟩
  obtain ⟨ed, hed⟩ : ∃ z, z = tlDs l := ⟨_, rfl⟩
  have hel : ed.length = l.length := by rw [hed, tlDs_len]
  have hl100 : l.length ≤ 100 ∧ l.length ≤ ts.length := by rw [hl, List.length_take]; omega
  have hmin : F .min (F .lenD es) 100 = (l.length : Int) := by rw [hF, hl, List.length_take]; show (if (100 : Int) < (es.length : Int) then (100 : Int) else (es.length : Int)) = _; split <;> omega
  have hsub : F .subV es 0 (F .min (F .lenD es) 100) = ed := by
    rw [t_subV hF (i := 0) (j := l.length) (iv := 0) (jv := F .min (F .lenD es) 100) rfl hmin, hed, hes, hl, List.drop_zero, tlDs, tlDs, ← List.map_take, List.length_take]
    congr 1
    rw [Nat.min_comm]
    by_cases c : ts.length ≤ 100
    · rw [Nat.min_eq_left c, List.take_length, List.take_of_length_le c]
    · rw [Nat.min_eq_right (by omega)]
  have hhas : F .hasV es 0 (F .min (F .lenD es) 100) = true := t_hasV hF (i := 0) (j := l.length) rfl hmin (by omega) (by omega)
  have htsP : ∀ m : List Tl, m.length ≤ 1000 → (∀ t, t ∈ m → t ∈ ts) → tsP (tlDs m) = true := fun m hm hmt => by
    rw [tsP, tlDs_len, decide_eq_true hm, Bool.and_true, List.all_eq_true]
    intro d hd
    obtain ⟨t, ht, rfl⟩ := List.mem_map.1 hd
    exact decide_eq_true (hts t (hmt t ht))
  rw [hsub]
  have q1 : uLines29 ed = true := by subst huLines29 huLines291 huLines292 huLook huLook1 huLook2; rw [hed]; exact htsP l (by omega) fun t ht => List.mem_of_mem_take (by rw [← hl]; exact ht)
  obtain ⟨s, hs⟩ : ∃ z, z = linesS l := ⟨_, rfl⟩
  obtain ⟨w, hw⟩ : ∃ z, z = wOK l := ⟨_, rfl⟩
  have f1 : uLines291 ed = s := by rw [hs, hed]; subst huLines29 huLines291 huLines292 huLook huLook1 huLook2; show linesS (unTs (tlDs l)) = _; rw [un_tl]
  have f2 : uLines292 ed = w := by rw [hw, hed]; subst huLines29 huLines291 huLines292 huLook huLook1 huLook2; show wOK (unTs (tlDs l)) = _; rw [un_tl]
  obtain ⟨e, he⟩ : ∃ z, z = (lookF s).2 := ⟨_, rfl⟩
  have f3 : uLook2 s = e := by rw [he]; subst huLines29 huLines291 huLines292 huLook huLook1 huLook2; rfl
  rw [f1, f2, f3]
  refine AKt.need rfl fun _ => ?_
  rw [l_not1 hF]
  refine AKt.ff ?_
  refine AKt.need hhas fun _ => ?_
  refine AKt.need q1 fun _ => ?_
  refine AKt.node (fun hb1 => ?_) (fun hb1 => ?_)
  · repeat' (first | with_reducible refine AKt.have ?_ | with_reducible refine AKt.tt ?_ | with_reducible refine AKt.ff ?_ | with_reducible refine AKt.yes (by assumption) ?_ | with_reducible refine AKt.no (by assumption) ?_ | with_reducible refine AKt.node (fun hb => ?_) (fun hb => ?_) | with_reducible refine AKt.need ?_ (fun hb => ?_) | with_reducible refine AKt.leaf ?_ | ((with_reducible show _ = true); assumption))
    all_goals exact AKp.doneE tabOK hfr (by rfl) (by rfl)
  have hwt : wOK l = true := by rw [← hw]; simp only [hF, f_ltI, f_leI, f_eqI, f_eqS, f_eqB, f_not, f_andB, f_orB, f_lenS, f_lenD, f_hasS, f_atS, f_hasC, f_subS, f_hasCat, f_app, f_wrap, f_add, f_sub, f_mul, f_appD, f_fits, f_hasV, f_subV, decide_eq_true_eq, decide_eq_false_iff_not, beq_iff_eq, beq_eq_false_iff_ne, Bool.and_eq_true, Bool.and_eq_false_iff, Bool.not_eq_true, Bool.not_eq_false, Bool.not_eq_eq_eq_not, Bool.not_true, Bool.not_false] at hb1; simpa using hb1
  have hsl : s.length ≤ 326 * l.length := by rw [hs, linesS, if_pos hwt]; exact linesOf_len hwt
  have q2 : uLook s = true := by subst huLines29 huLines291 huLines292 huLook huLook1 huLook2; exact decide_eq_true (by omega)
  refine AKt.node (fun hb2 => ?_) (fun hb2 => ?_)
  · repeat' (first | with_reducible refine AKt.have ?_ | with_reducible refine AKt.tt ?_ | with_reducible refine AKt.ff ?_ | with_reducible refine AKt.yes (by assumption) ?_ | with_reducible refine AKt.no (by assumption) ?_ | with_reducible refine AKt.node (fun hb => ?_) (fun hb => ?_) | with_reducible refine AKt.need ?_ (fun hb => ?_) | with_reducible refine AKt.leaf ?_ | ((with_reducible show _ = true); assumption))
    all_goals exact AKp.doneE tabOK hfr (by rfl) (by rfl)
  refine AKt.node (fun hb3 => ?_) (fun hb3 => ?_)
  · repeat' (first | with_reducible refine AKt.have ?_ | with_reducible refine AKt.tt ?_ | with_reducible refine AKt.ff ?_ | with_reducible refine AKt.yes (by assumption) ?_ | with_reducible refine AKt.no (by assumption) ?_ | with_reducible refine AKt.node (fun hb => ?_) (fun hb => ?_) | with_reducible refine AKt.need ?_ (fun hb => ?_) | with_reducible refine AKt.leaf ?_ | ((with_reducible show _ = true); assumption))
    all_goals exact AKp.doneE tabOK hfr (by rfl) (by rfl)
  obtain ⟨k, hk, hkl⟩ : ∃ k : Nat, wh = k ∧ k < l.length := by
    simp only [hF, f_ltI, f_leI, f_eqI, f_eqS, f_eqB, f_not, f_andB, f_orB, f_lenS, f_lenD, f_hasS, f_atS, f_hasC, f_subS, f_hasCat, f_app, f_wrap, f_add, f_sub, f_mul, f_appD, f_fits, f_hasV, f_subV, decide_eq_true_eq, decide_eq_false_iff_not, beq_iff_eq, beq_eq_false_iff_ne, Bool.and_eq_true, Bool.and_eq_false_iff, Bool.not_eq_true, Bool.not_eq_false, Bool.not_eq_eq_eq_not, Bool.not_true, Bool.not_false] at hb2 hb3
    rw [hel] at hb3
    exact ⟨wh.toNat, by omega, by omega⟩
  obtain ⟨t, ht⟩ : ∃ t, l[k]? = some t := ⟨_, List.getElem?_eq_getElem hkl⟩
  have htl := List.mem_of_getElem? ht
  have hd : ed[k]? = some t.dat := by rw [hed, tlDs, List.getElem?_map, ht]; rfl
  have k1 : F .hasD ed wh [.int .i64, .int .i64, .int .i64, .str, .int .i64, .int .i64, .int .u64] = true := t_hasD hF hd hk rfl
  have g0 : F .intA ed wh 0 = t.a := t_intA hF hd hk rfl
  have g1 : F .intA ed wh 1 = t.k := t_intA hF hd hk rfl
  have g2 : F .intA ed wh 2 = t.i := t_intA hF hd hk rfl
  have g3 : F .strA ed wh 3 = t.lv := t_strA hF hd hk rfl
  have g4 : F .intA ed wh 4 = t.s := t_intA hF hd hk rfl
  have g5 : F .intA ed wh 5 = t.w := t_intA hF hd hk rfl
  have g6 : F .intA ed wh 6 = t.d := t_intA hF hd hk rfl
  rw [g1]
  refine AKt.need k1 fun _ => ?_
  refine AKt.node (fun hb4 => ?_) (fun hb4 => ?_)
  · repeat' (first | with_reducible refine AKt.have ?_ | with_reducible refine AKt.tt ?_ | with_reducible refine AKt.ff ?_ | with_reducible refine AKt.yes (by assumption) ?_ | with_reducible refine AKt.no (by assumption) ?_ | with_reducible refine AKt.node (fun hb => ?_) (fun hb => ?_) | with_reducible refine AKt.need ?_ (fun hb => ?_) | with_reducible refine AKt.leaf ?_ | ((with_reducible show _ = true); assumption))
    all_goals exact AKp.doneE tabOK hfr (by rfl) (by rfl)
  refine AKt.need k1 fun _ => ?_
  refine AKt.node (fun hb5 => ?_) (fun hb5 => ?_)
  · repeat' (first | with_reducible refine AKt.have ?_ | with_reducible refine AKt.tt ?_ | with_reducible refine AKt.ff ?_ | with_reducible refine AKt.yes (by assumption) ?_ | with_reducible refine AKt.no (by assumption) ?_ | with_reducible refine AKt.node (fun hb => ?_) (fun hb => ?_) | with_reducible refine AKt.need ?_ (fun hb => ?_) | with_reducible refine AKt.leaf ?_ | ((with_reducible show _ = true); assumption))
    all_goals exact AKp.doneE tabOK hfr (by rfl) (by rfl)
  refine AKt.need q2 fun _ => ?_
  refine AKt.node (fun hb6 => ?_) (fun hb6 => ?_)
  · repeat' (first | with_reducible refine AKt.have ?_ | with_reducible refine AKt.tt ?_ | with_reducible refine AKt.ff ?_ | with_reducible refine AKt.yes (by assumption) ?_ | with_reducible refine AKt.no (by assumption) ?_ | with_reducible refine AKt.node (fun hb => ?_) (fun hb => ?_) | with_reducible refine AKt.need ?_ (fun hb => ?_) | with_reducible refine AKt.leaf ?_ | ((with_reducible show _ = true); assumption))
    all_goals exact AKp.doneE tabOK hfr (by rfl) (by rfl)
  have htk : t.k < 6 := by
    have v := (wrote (wOK_mem hwt htl)).2.2.1
    simp only [hF, f_ltI, f_leI, f_eqI, f_eqS, f_eqB, f_not, f_andB, f_orB, f_lenS, f_lenD, f_hasS, f_atS, f_hasC, f_subS, f_hasCat, f_app, f_wrap, f_add, f_sub, f_mul, f_appD, f_fits, f_hasV, f_subV, decide_eq_true_eq, decide_eq_false_iff_not, beq_iff_eq, beq_eq_false_iff_ne, Bool.and_eq_true, Bool.and_eq_false_iff, Bool.not_eq_true, Bool.not_eq_false, Bool.not_eq_eq_eq_not, Bool.not_true, Bool.not_false] at hb4 hb5
    simp only [validB, Bool.and_eq_true] at v
    have v2 := v.2
    repeat' split at v2
    all_goals first | omega | cases v2
  rw [g0, g2, g3, g4, g5, g6]
  refine AKt.node (fun hb7 => ?_) (fun hb7 => ?_)
  · have hb8 : F .leI (F .lenD ed) wh = false := by rw [hF, f_leI, f_lenD, hel, hk]; exact decide_eq_false (by omega)
    refine AKt.no hb8 ?_
    obtain ⟨pv, hpv⟩ : ∃ z, z = F .wrap .i64 (F .add wh 1) := ⟨_, rfl⟩
    rw [← hpv]
    obtain ⟨p, hp, hpl⟩ : ∃ p : Nat, pv = p ∧ p ≤ l.length := ⟨k + 1, by rw [hpv, inc_i hF hk (by omega)], by omega⟩
    have s1 : F .subV ed 0 pv = tlDs (l.take p) := by
      rw [t_subV hF (i := 0) (j := p) (iv := 0) (jv := pv) rfl hp, hed, List.drop_zero, tlDs, tlDs, List.map_take]
    have s2 : F .subV ed pv (F .lenD ed) = tlDs (l.drop p) := by
      rw [t_subV hF (i := p) (j := l.length) (iv := pv) (jv := F .lenD ed) hp (by rw [l_lenD hF, hel]), ← hel, List.take_length, hed, tlDs, tlDs, List.map_drop]
    have h1 : F .hasV ed 0 pv = true := t_hasV hF (i := 0) (j := p) rfl hp (by omega) (by omega)
    have h2 : F .hasV ed pv (F .lenD ed) = true := t_hasV hF (i := p) (j := l.length) hp (by rw [l_lenD hF, hel]) (by omega) (by omega)
    rw [s1, s2]
    obtain ⟨d1, hd1⟩ : ∃ z, z = tlDs (l.take p) := ⟨_, rfl⟩
    obtain ⟨d2, hd2⟩ : ∃ z, z = tlDs (l.drop p) := ⟨_, rfl⟩
    rw [← hd1, ← hd2]
    obtain ⟨n1, hn1⟩ : ∃ z, z = F .appD d1 [.agg [.s (.int .i64 t.a), .s (.int .i64 t.k), .s (.int .i64 t.i), .s (.str t.lv), .s (.int .i64 t.s), .s (.int .i64 t.w), .s (.int .u64 t.d)]] := ⟨_, rfl⟩
    rw [← hn1]
    obtain ⟨n2, hn2⟩ : ∃ z, z = F .appD n1 d2 := ⟨_, rfl⟩
    rw [← hn2]
    obtain ⟨m, hm⟩ : ∃ z, z = l.take p ++ t :: l.drop p := ⟨_, rfl⟩
    have hml : m.length = l.length + 1 := by rw [hm]; simp; omega
    have en1 : n1 = tlDs (l.take p ++ [t]) := by rw [hn1, hF, f_appD, hd1]; simp [tlDs, Tl.dat]
    have en2 : n2 = tlDs m := by rw [hn2, hF, f_appD, en1, hd2, hm]; simp [tlDs, Tl.dat]
    have x1 : F .fits 64 d1 = true := t_fits hF (by rw [hd1, tlDs_len, List.length_take]; omega)
    have x2 : F .fits 64 n1 = true := t_fits hF (by rw [en1, tlDs_len, List.length_append, List.length_take]; simp; omega)
    have x3 : F .fits 64 n2 = true := t_fits hF (by rw [en2, tlDs_len, hml]; omega)
    have hmm : ∀ x, x ∈ m → x ∈ l := fun x hx => by
      rw [hm] at hx
      rcases List.mem_append.1 hx with h | h
      · exact List.mem_of_mem_take h
      · rcases List.mem_cons.1 h with h | h
        · rw [h]; exact htl
        · exact List.mem_of_mem_drop h
    have q3 : uLines29 n2 = true := by subst huLines29 huLines291 huLines292 huLook huLook1 huLook2; rw [en2]; exact htsP m (by omega) fun t ht => List.mem_of_mem_take (by rw [← hl]; exact hmm t ht)
    have hwm : wOK m = true := List.all_eq_true.2 fun t ht => List.all_eq_true.1 hwt t (hmm t ht)
    have f4 : uLines292 n2 = true := by rw [en2]; subst huLines29 huLines291 huLines292 huLook huLook1 huLook2; show wOK (unTs (tlDs m)) = _; rw [un_tl]; exact hwm
    obtain ⟨u, hu⟩ : ∃ z, z = linesS m := ⟨_, rfl⟩
    have f5 : uLines291 n2 = u := by rw [hu, en2]; subst huLines29 huLines291 huLines292 huLook huLook1 huLook2; show linesS (unTs (tlDs m)) = _; rw [un_tl]
    have hul : u.length ≤ 326 * m.length := by rw [hu, linesS, if_pos hwm]; exact linesOf_len hwm
    have q4 : uLook u = true := by subst huLines29 huLines291 huLines292 huLook huLook1 huLook2; exact decide_eq_true (by omega)
    have res := (look_ok hwm (by omega)).2 (by rw [hm]; exact twice_bad htl htk)
    rw [← hu] at res
    have f6 : F .leI 1 (uLook1 u) = true := by rw [hF]; refine decide_eq_true ?_; subst huLines29 huLines291 huLines292 huLook huLook1 huLook2; exact res.1
    have f7 : uLook2 u = 13 := by subst huLines29 huLines291 huLines292 huLook huLook1 huLook2; exact res.2
    have eqI : ∀ b : Int, F .eqI b b = true := fun b => by rw [hF, f_eqI]; simp
    repeat' (first | with_reducible refine AKt.have ?_ | with_reducible refine AKt.tt ?_ | with_reducible refine AKt.ff ?_ | with_reducible refine AKt.yes (by assumption) ?_ | with_reducible refine AKt.no (by assumption) ?_ | with_reducible refine AKt.node (fun hb => ?_) (fun hb => ?_) | with_reducible refine AKt.need ?_ (fun hb => ?_) | with_reducible refine AKt.leaf ?_ | ((with_reducible show _ = true); assumption))
    refine AKp.freeze 3 rfl ?_
    conv => arg 4; arg 2; cbv
    refine AK.runT hF tabOK hmix hnt hfr false _ hG ?_
    conv => arg 4; cbv
    rw [f4, f5, f6, f7, eqI]
    repeat' (first | with_reducible refine AKt.have ?_ | with_reducible refine AKt.tt ?_ | with_reducible refine AKt.ff ?_ | with_reducible refine AKt.yes (by assumption) ?_ | with_reducible refine AKt.no (by assumption) ?_ | with_reducible refine AKt.node (fun hb => ?_) (fun hb => ?_) | with_reducible refine AKt.need ?_ (fun hb => ?_) | with_reducible refine AKt.leaf ?_ | ((with_reducible show _ = true); assumption))
    all_goals exact AKp.doneE tabOK hfr (by rfl) (by rfl)
  refine AKt.node (fun hb8 => ?_) (fun hb8 => ?_)
  · obtain ⟨pv, hpv⟩ : ∃ z, z = F .wrap .i64 (F .add (F .wrap .i64 (F .sub (F .lenD ed) 1)) 1) := ⟨_, rfl⟩
    rw [← hpv]
    obtain ⟨p, hp, hpl⟩ : ∃ p : Nat, pv = p ∧ p ≤ l.length := ⟨l.length, by
      rw [hpv]
      have e1 : F .wrap .i64 (F .sub (F .lenD ed) 1) = ((l.length - 1 : Nat) : Int) := by
        rw [hF, f_lenD, hel]
        show IntKind.i64.wrap ((l.length : Int) - 1) = _
        rw [w_i64 (by omega) (by omega)]
        omega
      rw [e1, inc_i hF rfl (by omega)]
      omega, Nat.le_refl _⟩
    have s1 : F .subV ed 0 pv = tlDs (l.take p) := by
      rw [t_subV hF (i := 0) (j := p) (iv := 0) (jv := pv) rfl hp, hed, List.drop_zero, tlDs, tlDs, List.map_take]
    have s2 : F .subV ed pv (F .lenD ed) = tlDs (l.drop p) := by
      rw [t_subV hF (i := p) (j := l.length) (iv := pv) (jv := F .lenD ed) hp (by rw [l_lenD hF, hel]), ← hel, List.take_length, hed, tlDs, tlDs, List.map_drop]
    have h1 : F .hasV ed 0 pv = true := t_hasV hF (i := 0) (j := p) rfl hp (by omega) (by omega)
    have h2 : F .hasV ed pv (F .lenD ed) = true := t_hasV hF (i := p) (j := l.length) hp (by rw [l_lenD hF, hel]) (by omega) (by omega)
    rw [s1, s2]
    obtain ⟨d1, hd1⟩ : ∃ z, z = tlDs (l.take p) := ⟨_, rfl⟩
    obtain ⟨d2, hd2⟩ : ∃ z, z = tlDs (l.drop p) := ⟨_, rfl⟩
    rw [← hd1, ← hd2]
    obtain ⟨n1, hn1⟩ : ∃ z, z = F .appD d1 [.agg [.s (.int .i64 t.a), .s (.int .i64 t.k), .s (.int .i64 t.i), .s (.str t.lv), .s (.int .i64 t.s), .s (.int .i64 t.w), .s (.int .u64 t.d)]] := ⟨_, rfl⟩
    rw [← hn1]
    obtain ⟨n2, hn2⟩ : ∃ z, z = F .appD n1 d2 := ⟨_, rfl⟩
    rw [← hn2]
    obtain ⟨m, hm⟩ : ∃ z, z = l.take p ++ t :: l.drop p := ⟨_, rfl⟩
    have hml : m.length = l.length + 1 := by rw [hm]; simp; omega
    have en1 : n1 = tlDs (l.take p ++ [t]) := by rw [hn1, hF, f_appD, hd1]; simp [tlDs, Tl.dat]
    have en2 : n2 = tlDs m := by rw [hn2, hF, f_appD, en1, hd2, hm]; simp [tlDs, Tl.dat]
    have x1 : F .fits 64 d1 = true := t_fits hF (by rw [hd1, tlDs_len, List.length_take]; omega)
    have x2 : F .fits 64 n1 = true := t_fits hF (by rw [en1, tlDs_len, List.length_append, List.length_take]; simp; omega)
    have x3 : F .fits 64 n2 = true := t_fits hF (by rw [en2, tlDs_len, hml]; omega)
    have hmm : ∀ x, x ∈ m → x ∈ l := fun x hx => by
      rw [hm] at hx
      rcases List.mem_append.1 hx with h | h
      · exact List.mem_of_mem_take h
      · rcases List.mem_cons.1 h with h | h
        · rw [h]; exact htl
        · exact List.mem_of_mem_drop h
    have q3 : uLines29 n2 = true := by subst huLines29 huLines291 huLines292 huLook huLook1 huLook2; rw [en2]; exact htsP m (by omega) fun t ht => List.mem_of_mem_take (by rw [← hl]; exact hmm t ht)
    have hwm : wOK m = true := List.all_eq_true.2 fun t ht => List.all_eq_true.1 hwt t (hmm t ht)
    have f4 : uLines292 n2 = true := by rw [en2]; subst huLines29 huLines291 huLines292 huLook huLook1 huLook2; show wOK (unTs (tlDs m)) = _; rw [un_tl]; exact hwm
    obtain ⟨u, hu⟩ : ∃ z, z = linesS m := ⟨_, rfl⟩
    have f5 : uLines291 n2 = u := by rw [hu, en2]; subst huLines29 huLines291 huLines292 huLook huLook1 huLook2; show linesS (unTs (tlDs m)) = _; rw [un_tl]
    have hul : u.length ≤ 326 * m.length := by rw [hu, linesS, if_pos hwm]; exact linesOf_len hwm
    have q4 : uLook u = true := by subst huLines29 huLines291 huLines292 huLook huLook1 huLook2; exact decide_eq_true (by omega)
    have res := (look_ok hwm (by omega)).2 (by rw [hm]; exact twice_bad htl htk)
    rw [← hu] at res
    have f6 : F .leI 1 (uLook1 u) = true := by rw [hF]; refine decide_eq_true ?_; subst huLines29 huLines291 huLines292 huLook huLook1 huLook2; exact res.1
    have f7 : uLook2 u = 13 := by subst huLines29 huLines291 huLines292 huLook huLook1 huLook2; exact res.2
    have eqI : ∀ b : Int, F .eqI b b = true := fun b => by rw [hF, f_eqI]; simp
    repeat' (first | with_reducible refine AKt.have ?_ | with_reducible refine AKt.tt ?_ | with_reducible refine AKt.ff ?_ | with_reducible refine AKt.yes (by assumption) ?_ | with_reducible refine AKt.no (by assumption) ?_ | with_reducible refine AKt.node (fun hb => ?_) (fun hb => ?_) | with_reducible refine AKt.need ?_ (fun hb => ?_) | with_reducible refine AKt.leaf ?_ | ((with_reducible show _ = true); assumption))
    refine AKp.freeze 3 rfl ?_
    conv => arg 4; arg 2; cbv
    refine AK.runT hF tabOK hmix hnt hfr false _ hG ?_
    conv => arg 4; cbv
    rw [f4, f5, f6, f7, eqI]
    repeat' (first | with_reducible refine AKt.have ?_ | with_reducible refine AKt.tt ?_ | with_reducible refine AKt.ff ?_ | with_reducible refine AKt.yes (by assumption) ?_ | with_reducible refine AKt.no (by assumption) ?_ | with_reducible refine AKt.node (fun hb => ?_) (fun hb => ?_) | with_reducible refine AKt.need ?_ (fun hb => ?_) | with_reducible refine AKt.leaf ?_ | ((with_reducible show _ = true); assumption))
    all_goals exact AKp.doneE tabOK hfr (by rfl) (by rfl)
  · obtain ⟨pv, hpv⟩ : ∃ z, z = F .wrap .i64 (F .add wr 1) := ⟨_, rfl⟩
    rw [← hpv]
    obtain ⟨p, hp, hpl⟩ : ∃ p : Nat, pv = p ∧ p ≤ l.length := by
      simp only [hF, f_ltI, f_leI, f_eqI, f_eqS, f_eqB, f_not, f_andB, f_orB, f_lenS, f_lenD, f_hasS, f_atS, f_hasC, f_subS, f_hasCat, f_app, f_wrap, f_add, f_sub, f_mul, f_appD, f_fits, f_hasV, f_subV, decide_eq_true_eq, decide_eq_false_iff_not, beq_iff_eq, beq_eq_false_iff_ne, Bool.and_eq_true, Bool.and_eq_false_iff, Bool.not_eq_true, Bool.not_eq_false, Bool.not_eq_eq_eq_not, Bool.not_true, Bool.not_false] at hb7 hb8
      rw [hel] at hb8
      exact ⟨wr.toNat + 1, by rw [hpv, inc_i hF (i := wr.toNat) (by omega) (by omega)], by omega⟩
    have s1 : F .subV ed 0 pv = tlDs (l.take p) := by
      rw [t_subV hF (i := 0) (j := p) (iv := 0) (jv := pv) rfl hp, hed, List.drop_zero, tlDs, tlDs, List.map_take]
    have s2 : F .subV ed pv (F .lenD ed) = tlDs (l.drop p) := by
      rw [t_subV hF (i := p) (j := l.length) (iv := pv) (jv := F .lenD ed) hp (by rw [l_lenD hF, hel]), ← hel, List.take_length, hed, tlDs, tlDs, List.map_drop]
    have h1 : F .hasV ed 0 pv = true := t_hasV hF (i := 0) (j := p) rfl hp (by omega) (by omega)
    have h2 : F .hasV ed pv (F .lenD ed) = true := t_hasV hF (i := p) (j := l.length) hp (by rw [l_lenD hF, hel]) (by omega) (by omega)
    rw [s1, s2]
    obtain ⟨d1, hd1⟩ : ∃ z, z = tlDs (l.take p) := ⟨_, rfl⟩
    obtain ⟨d2, hd2⟩ : ∃ z, z = tlDs (l.drop p) := ⟨_, rfl⟩
    rw [← hd1, ← hd2]
    obtain ⟨n1, hn1⟩ : ∃ z, z = F .appD d1 [.agg [.s (.int .i64 t.a), .s (.int .i64 t.k), .s (.int .i64 t.i), .s (.str t.lv), .s (.int .i64 t.s), .s (.int .i64 t.w), .s (.int .u64 t.d)]] := ⟨_, rfl⟩
    rw [← hn1]
    obtain ⟨n2, hn2⟩ : ∃ z, z = F .appD n1 d2 := ⟨_, rfl⟩
    rw [← hn2]
    obtain ⟨m, hm⟩ : ∃ z, z = l.take p ++ t :: l.drop p := ⟨_, rfl⟩
    have hml : m.length = l.length + 1 := by rw [hm]; simp; omega
    have en1 : n1 = tlDs (l.take p ++ [t]) := by rw [hn1, hF, f_appD, hd1]; simp [tlDs, Tl.dat]
    have en2 : n2 = tlDs m := by rw [hn2, hF, f_appD, en1, hd2, hm]; simp [tlDs, Tl.dat]
    have x1 : F .fits 64 d1 = true := t_fits hF (by rw [hd1, tlDs_len, List.length_take]; omega)
    have x2 : F .fits 64 n1 = true := t_fits hF (by rw [en1, tlDs_len, List.length_append, List.length_take]; simp; omega)
    have x3 : F .fits 64 n2 = true := t_fits hF (by rw [en2, tlDs_len, hml]; omega)
    have hmm : ∀ x, x ∈ m → x ∈ l := fun x hx => by
      rw [hm] at hx
      rcases List.mem_append.1 hx with h | h
      · exact List.mem_of_mem_take h
      · rcases List.mem_cons.1 h with h | h
        · rw [h]; exact htl
        · exact List.mem_of_mem_drop h
    have q3 : uLines29 n2 = true := by subst huLines29 huLines291 huLines292 huLook huLook1 huLook2; rw [en2]; exact htsP m (by omega) fun t ht => List.mem_of_mem_take (by rw [← hl]; exact hmm t ht)
    have hwm : wOK m = true := List.all_eq_true.2 fun t ht => List.all_eq_true.1 hwt t (hmm t ht)
    have f4 : uLines292 n2 = true := by rw [en2]; subst huLines29 huLines291 huLines292 huLook huLook1 huLook2; show wOK (unTs (tlDs m)) = _; rw [un_tl]; exact hwm
    obtain ⟨u, hu⟩ : ∃ z, z = linesS m := ⟨_, rfl⟩
    have f5 : uLines291 n2 = u := by rw [hu, en2]; subst huLines29 huLines291 huLines292 huLook huLook1 huLook2; show linesS (unTs (tlDs m)) = _; rw [un_tl]
    have hul : u.length ≤ 326 * m.length := by rw [hu, linesS, if_pos hwm]; exact linesOf_len hwm
    have q4 : uLook u = true := by subst huLines29 huLines291 huLines292 huLook huLook1 huLook2; exact decide_eq_true (by omega)
    have res := (look_ok hwm (by omega)).2 (by rw [hm]; exact twice_bad htl htk)
    rw [← hu] at res
    have f6 : F .leI 1 (uLook1 u) = true := by rw [hF]; refine decide_eq_true ?_; subst huLines29 huLines291 huLines292 huLook huLook1 huLook2; exact res.1
    have f7 : uLook2 u = 13 := by subst huLines29 huLines291 huLines292 huLook huLook1 huLook2; exact res.2
    have eqI : ∀ b : Int, F .eqI b b = true := fun b => by rw [hF, f_eqI]; simp
    repeat' (first | with_reducible refine AKt.have ?_ | with_reducible refine AKt.tt ?_ | with_reducible refine AKt.ff ?_ | with_reducible refine AKt.yes (by assumption) ?_ | with_reducible refine AKt.no (by assumption) ?_ | with_reducible refine AKt.node (fun hb => ?_) (fun hb => ?_) | with_reducible refine AKt.need ?_ (fun hb => ?_) | with_reducible refine AKt.leaf ?_ | ((with_reducible show _ = true); assumption))
    refine AKp.freeze 3 rfl ?_
    conv => arg 4; arg 2; cbv
    refine AK.runT hF tabOK hmix hnt hfr false _ hG ?_
    conv => arg 4; cbv
    rw [f4, f5, f6, f7, eqI]
    repeat' (first | with_reducible refine AKt.have ?_ | with_reducible refine AKt.tt ?_ | with_reducible refine AKt.ff ?_ | with_reducible refine AKt.yes (by assumption) ?_ | with_reducible refine AKt.no (by assumption) ?_ | with_reducible refine AKt.node (fun hb => ?_) (fun hb => ?_) | with_reducible refine AKt.need ?_ (fun hb => ?_) | with_reducible refine AKt.leaf ?_ | ((with_reducible show _ = true); assumption))
    all_goals exact AKp.doneE tabOK hfr (by rfl) (by rfl)
end Go.Proofs.YtlcgjeafmbbipaaDoor

/- The law of what stands twice, as its card wants it. -/
namespace Go.Proofs.YtlcgjeafmbbipaaDoor
open Go Go.Proofs Go.Ua Go.Extern
theorem JudgeTwiceU_spec (ts : List Tl) (wh wr : Int) (h : bulkL [.view 7 (tlDs ts)] ≤ 1048576) : ESpec Tryd.prog 5 [.d (.view 7 (tlDs ts)), .d (.s (.int .i64 wh)), .d (.s (.int .i64 wr))] (fun x => x = .d (.s (.bool true))) := JudgeTwice_spec ts wh wr (bulk_told h)
end Go.Proofs.YtlcgjeafmbbipaaDoor
