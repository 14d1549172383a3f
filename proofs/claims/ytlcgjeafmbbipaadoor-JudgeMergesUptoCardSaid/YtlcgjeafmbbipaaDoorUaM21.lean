/- The library of this claim and its walks, part 21, joined out of smaller texts. No statement stands in it. -/
import Derived.Test.YtlcgjeafmbbipaaDoorUaM20
import Derived.Test.YtlcgjeafmbbipaaDoorRows
/- How much a reading is: what the bound of an Upto row gives. -/
namespace Go.Proofs.YtlcgjeafmbbipaaDoor
open Go Go.Proofs Go.Ua
set_option linter.unusedVariables false
set_option linter.unusedSimpArgs false

def bulkS : Sc → Nat
  | .str s => s.length + 1
  | _ => 1
mutual
def bulk1 : Dat → Nat
  | .s x => bulkS x
  | .agg cs => bulkL cs
  | .view _ es => bulkL es + 1
  | .iface _ _ => 0
  | .vref _ => 0
def bulkL : List Dat → Nat
  | [] => 0
  | d :: r => bulk1 d + bulkL r
end
theorem bulkL_app (a b : List Dat) : bulkL (a ++ b) = bulkL a + bulkL b := by
  induction a with
  | nil => simp [bulkL]
  | cons x a ih => simp only [List.cons_append, bulkL, ih]; omega
theorem bulk_one (ag : Bool) (l : List Dat) : bulk1 (oneD ag l) ≤ bulkL l := by
  cases ag with
  | true => exact Nat.le_of_eq (by simp [oneD, bulk1])
  | false =>
    cases l with
    | nil => simp [oneD, bulk1, bulkL]
    | cons x l => simp only [oneD, List.headD_cons, bulkL]; omega
theorem bulk_map {H : Type} (g : DataW H → Dat) : ∀ es : List (DataW H), (∀ x, x ∈ es → bulk1 (g x) ≤ Rows.uptoBulk x) → bulkL (es.map g) ≤ Rows.uptoBulkAll es
  | [], _ => by simp [bulkL]
  | x :: es, h => by
    have h1 := h x (by simp)
    have h2 := bulk_map g es fun y hy => h y (List.mem_cons_of_mem _ hy)
    simp only [List.map_cons, bulkL, Rows.uptoBulkAll]
    omega
theorem bulk_zip {H : Type} (g : (Nat × TypeId) → DataW H → List Dat) : ∀ (fs : List (Nat × TypeId)) (es : List (DataW H)), (∀ f x, x ∈ es → bulkL (g f x) ≤ Rows.uptoBulk x) → bulkL (((fs.zip es).map fun p => g p.1 p.2).flatten) ≤ Rows.uptoBulkAll es
  | [], es, _ => by simp [bulkL]
  | f :: fs, [], _ => by simp [bulkL]
  | f :: fs, x :: es, h => by
    have h1 := h f x (by simp)
    have h2 := bulk_zip g fs es fun f y hy => h f y (List.mem_cons_of_mem _ hy)
    simp only [List.zip_cons_cons, List.map_cons, List.flatten_cons, bulkL_app, Rows.uptoBulkAll]
    omega
theorem bulk_dat {H : Type} (τ : Tab) : ∀ (f : Nat) (t : TypeId) (d : DataW H), bulkL (datOf τ f t d) ≤ Rows.uptoBulk d
  | 0, t, d => by simp [datOf, bulkL]
  | f + 1, t, d => by
    unfold datOf
    split
    · simp [bulkL]
    · split
      · simp [bulkL, bulk1, bulkS, Rows.uptoBulk]
      · simp [bulkL, bulk1, bulkS, Rows.uptoBulk]
      · simp [bulkL, bulk1, bulkS, Rows.uptoBulk]
      · simp [bulkL, bulk1, Rows.uptoBulk]
      · rename_i e es sp _
        have := bulk_map (fun x => oneD (aggAt τ e) (datOf τ f e x)) es fun x _ => Nat.le_trans (bulk_one _ _) (bulk_dat τ f e x)
        simp only [bulkL, bulk1, Rows.uptoBulk]
        omega
      · rename_i fs ps _
        have := bulk_zip (fun p x => datOf τ f p.2 x) fs ps fun p x _ => bulk_dat τ f p.2 x
        simp only [Rows.uptoBulk]
        omega
      · simp [bulkL]
theorem bulk_in {H : Type} {d : DataW H} {l : List (DataW H)} (h : d ∈ l) : Rows.uptoBulk d ≤ Rows.uptoBulkAll l := by
  induction l with
  | nil => cases h
  | cons x r ih =>
    simp only [Rows.uptoBulkAll]
    rcases List.mem_cons.1 h with e | e
    · subst e; omega
    · have := ih e; omega
theorem bulk_of {H : Type} {τ : Tab} {f : Nat} {t : TypeId} {d : DataW H} {l : List (DataW H)} {x : List Dat} (hk : Rows.uptoSmall H l = true) (h : d ∈ l) (hx : datOf τ f t d = x) : bulkL x ≤ 1048576 := by
  have h1 : Rows.uptoBulkAll l ≤ 1048576 := of_decide_eq_true hk
  rw [← hx]
  exact Nat.le_trans (bulk_dat τ f t d) (Nat.le_trans (bulk_in h) h1)
theorem bulk_str {s : List UInt8} (h : bulkL [.s (.str s)] ≤ 1048576) : s.length ≤ 1048576 := by
  simp only [bulkL, bulk1, bulkS] at h
  omega
end Go.Proofs.YtlcgjeafmbbipaaDoor

/- What cards want of lists of texts, and of texts. -/
namespace Go.Proofs.YtlcgjeafmbbipaaDoor
open Go Go.Proofs Go.Ua Go.Extern
set_option linter.unusedVariables false

theorem typed_str {f : Nat} {l : List Dat} (h : typed tab (f + 1) 9 l) : ∃ s, l = [.s (.str s)] := by
  obtain ⟨s, rfl, _⟩ := h
  exact ⟨s, rfl⟩
theorem typed_strs {f : Nat} {l : List Dat} (h : typed tab (f + 2) 29 l) : ∃ zs, l = [.view 1 (strDs zs)] := by
  obtain ⟨es, rfl, hlen, hes⟩ := h
  clear hlen
  have : ∃ zs, es = strDs zs := by
    induction es with
    | nil => exact ⟨[], rfl⟩
    | cons x es ih =>
      obtain ⟨zs, rfl⟩ := ih fun x hx => hes x (List.mem_cons_of_mem _ hx)
      obtain ⟨l', rfl, s, rfl, _⟩ := hes x (by simp)
      exact ⟨s :: zs, rfl⟩
  obtain ⟨zs, rfl⟩ := this
  exact ⟨zs, rfl⟩
end Go.Proofs.YtlcgjeafmbbipaaDoor

/- The laws as the cards want them. -/
namespace Go.Proofs.YtlcgjeafmbbipaaDoor
open Go Go.Proofs Go.Ua Go.Extern
set_option linter.unusedVariables false
set_option linter.unusedSimpArgs false

theorem JudgeBeginningU_spec (s : List UInt8) (at_ : Int) (hs : bulkL [.s (.str s)] ≤ 1048576) : ESpec Tryd.prog 4 [.d (.s (.str s)), .d (.s (.int .i64 at_))] (fun x => x = .d (.s (.bool true))) := JudgeBeginning_spec s at_ (bulk_str hs)

def toldCells (t : Tl) : List Dat := [.s (.int .i64 t.a), .s (.int .i64 t.k), .s (.int .i64 t.i), .s (.str t.lv), .s (.int .i64 t.s), .s (.int .i64 t.w), .s (.int .u64 t.d)]
theorem len7 {α : Type} {l : List α} (h : l.length = 7) : ∃ a b c d e f g, l = [a, b, c, d, e, f, g] := by
  match l, h with
  | [a, b, c, d, e, f, g], _ => exact ⟨a, b, c, d, e, f, g, rfl⟩
theorem typed_told {f : Nat} {l : List Dat} (h : typed tab (f + 2) 37 l) : ∃ t : Tl, l = toldCells t := by
  obtain ⟨ls, hlen, rfl, hall⟩ := h
  obtain ⟨a, b, c, d, e, f, g, rfl⟩ := len7 hlen
  obtain ⟨n0, rfl, _⟩ := hall 0 (0, 3) a rfl rfl
  obtain ⟨n1, rfl, _⟩ := hall 1 (1, 3) b rfl rfl
  obtain ⟨n2, rfl, _⟩ := hall 2 (2, 3) c rfl rfl
  obtain ⟨s3, rfl, _⟩ := hall 3 (3, 9) d rfl rfl
  obtain ⟨n4, rfl, _⟩ := hall 4 (4, 3) e rfl rfl
  obtain ⟨n5, rfl, _⟩ := hall 5 (5, 23) f rfl rfl
  obtain ⟨n6, rfl, _⟩ := hall 6 (6, 35) g rfl rfl
  exact ⟨⟨n0, n1, n2, s3, n4, n5, n6⟩, rfl⟩
theorem typed_tolds {f : Nat} {l : List Dat} (h : typed tab (f + 3) 32 l) : ∃ ts, l = [.view 7 (tlDs ts)] := by
  obtain ⟨es, rfl, hlen, hes⟩ := h
  clear hlen
  have : ∃ ts, es = tlDs ts := by
    induction es with
    | nil => exact ⟨[], rfl⟩
    | cons x es ih =>
      obtain ⟨ts, rfl⟩ := ih fun x hx => hes x (List.mem_cons_of_mem _ hx)
      obtain ⟨l', rfl, h2⟩ := hes x (by simp)
      obtain ⟨t, rfl⟩ := typed_told h2
      exact ⟨t :: ts, rfl⟩
  obtain ⟨ts, rfl⟩ := this
  exact ⟨ts, rfl⟩
theorem bulk_told {ts : List Tl} (h : bulkL [.view 7 (tlDs ts)] ≤ 1048576) : ∀ t, t ∈ ts → t.lv.length ≤ 1200000 := by
  have key : ∀ (l : List Tl) (t : Tl), t ∈ l → t.lv.length ≤ bulkL (tlDs l) := by
    intro l
    induction l with
    | nil => intro t h; cases h
    | cons x l ih =>
      intro t h
      have e : bulkL (tlDs (x :: l)) = bulk1 x.dat + bulkL (tlDs l) := rfl
      rw [e]
      rcases List.mem_cons.1 h with h | h
      · subst h
        simp only [Tl.dat, bulk1, bulkL, bulkS]
        omega
      · have := ih t h; omega
  intro t ht
  have h1 := key ts t ht
  simp only [bulkL, bulk1] at h
  omega
theorem JudgeApartU_spec (ts : List Tl) (id : Int) (h : bulkL [.view 7 (tlDs ts)] ≤ 1048576) : ESpec Tryd.prog 6 [.d (.view 7 (tlDs ts)), .d (.s (.int .i64 id))] (fun x => x = .d (.s (.bool true))) := JudgeApart_spec ts id (bulk_told h)
end Go.Proofs.YtlcgjeafmbbipaaDoor

/- Two traces put together. -/
namespace Go.Proofs.YtlcgjeafmbbipaaDoor
open Go Go.Proofs Go.Ua Go.Extern
set_option linter.unusedVariables false
set_option linter.unusedSimpArgs false
set_option maxRecDepth 10000

def lastA : List Tl → Int → Int
  | [], x => x
  | t :: ts, _ => lastA ts t.a
theorem sort_app : ∀ (l r : List Tl) (x : Int), sortB (l ++ r) x = (sortB l x && sortB r (lastA l x))
  | [], r, x => by simp [sortB, lastA]
  | t :: l, r, x => by
    rw [List.cons_append, sortB, sortB, lastA, sort_app l r t.a, Bool.and_assoc]
theorem lastA_snoc : ∀ (l : List Tl) (t : Tl) (x : Int), lastA (l ++ [t]) x = t.a
  | [], t, x => rfl
  | y :: l, t, x => lastA_snoc l t y.a

/-- So far the two are put together. -/
def Mg (a b : List Tl) (i k : Nat) (m : List Tl) : Prop :=
  m.length = i + k ∧ sortB (m ++ a.drop i) 0 = true ∧ sortB (m ++ b.drop k) 0 = true ∧ (∀ id, m.filter (selB id) = (a.take i).filter (selB id) ++ (b.take k).filter (selB id)) ∧ ∀ t, t ∈ m → t ∈ a ∨ t ∈ b
def Apart (a b : List Tl) : Prop := ∀ x y, x ∈ a → y ∈ b → x.k < 6 → y.k < 6 → ¬ x.i = y.i
theorem apart_nil {a b : List Tl} (h : Apart a b) (id : Int) : a.filter (selB id) = [] ∨ b.filter (selB id) = [] := by
  by_cases c : a.filter (selB id) = []
  · exact .inl c
  · refine .inr (List.filter_eq_nil_iff.2 fun y hy hs => ?_)
    obtain ⟨x, hx⟩ := List.exists_mem_of_ne_nil _ c
    obtain ⟨hx1, hx2⟩ := List.mem_filter.1 hx
    have s1 : x.k < 6 ∧ x.i = id := of_decide_eq_true hx2
    have s2 : y.k < 6 ∧ y.i = id := of_decide_eq_true hs
    exact h x y hx1 hy s1.1 s2.1 (s1.2.trans s2.2.symm)
theorem filter_take_nil {l : List Tl} {p : Tl → Bool} (h : l.filter p = []) (k : Nat) : (l.take k).filter p = [] :=
  List.filter_eq_nil_iff.2 fun x hx => List.filter_eq_nil_iff.1 h x (List.mem_of_mem_take hx)
theorem Mg_nil {a b : List Tl} (ha : sortB a 0 = true) (hb : sortB b 0 = true) : Mg a b 0 0 [] := ⟨rfl, ha, hb, fun id => rfl, fun t h => by cases h⟩
theorem Mg_a {a b m : List Tl} {i k : Nat} {x : Tl} (hap : Apart a b) (h : Mg a b i k m) (hx : a[i]? = some x) (hc : ∀ y, b[k]? = some y → x.a ≤ y.a) : Mg a b (i + 1) k (m ++ [x]) := by
  obtain ⟨h1, h2, h3, h4, h5⟩ := h
  obtain ⟨hlt, hxe⟩ := List.getElem?_eq_some_iff.1 hx
  have hdr : a.drop i = x :: a.drop (i + 1) := by rw [List.drop_eq_getElem_cons hlt, hxe]
  rw [hdr] at h2
  refine ⟨by rw [List.length_append, h1]; simp; omega, by rw [List.append_assoc]; exact h2, ?_, fun id => ?_, fun t ht => ?_⟩
  · rw [sort_app, lastA_snoc]
    rw [show m ++ x :: a.drop (i + 1) = (m ++ [x]) ++ a.drop (i + 1) by simp, sort_app] at h2
    simp only [Bool.and_eq_true] at h2
    rw [h2.1, Bool.true_and]
    cases hk : b[k]? with
    | none =>
      rw [List.drop_eq_nil_of_le (List.getElem?_eq_none_iff.1 hk)]
      rfl
    | some y =>
      obtain ⟨hlt2, hye⟩ := List.getElem?_eq_some_iff.1 hk
      have hdr2 : b.drop k = y :: b.drop (k + 1) := by rw [List.drop_eq_getElem_cons hlt2, hye]
      rw [sort_app, hdr2, sortB, Bool.and_eq_true, Bool.and_eq_true] at h3
      rw [hdr2, sortB, decide_eq_false (by have := hc y hk; omega), h3.2.2]
      rfl
  · rw [List.filter_append, h4 id, List.take_add_one, hx, Option.toList_some, List.filter_append, List.append_assoc, List.append_assoc]
    congr 1
    by_cases s : selB id x = true
    · rcases apart_nil hap id with g | g
      · exact absurd s (List.filter_eq_nil_iff.1 g x (List.mem_of_getElem? hx))
      · rw [filter_take_nil g, List.nil_append, List.append_nil]
    · rw [List.filter_cons, if_neg s, List.filter_nil, List.nil_append, List.append_nil]
  · rcases List.mem_append.1 ht with g | g
    · exact h5 t g
    · rw [List.mem_singleton.1 g]; exact .inl (List.mem_of_getElem? hx)
theorem Mg_b {a b m : List Tl} {i k : Nat} {y : Tl} (h : Mg a b i k m) (hy : b[k]? = some y) (hc : ∀ x, a[i]? = some x → y.a ≤ x.a) : Mg a b i (k + 1) (m ++ [y]) := by
  obtain ⟨h1, h2, h3, h4, h5⟩ := h
  obtain ⟨hlt, hye⟩ := List.getElem?_eq_some_iff.1 hy
  have hdr : b.drop k = y :: b.drop (k + 1) := by rw [List.drop_eq_getElem_cons hlt, hye]
  rw [hdr] at h3
  refine ⟨by rw [List.length_append, h1]; simp; omega, ?_, by rw [List.append_assoc]; exact h3, fun id => ?_, fun t ht => ?_⟩
  · rw [sort_app, lastA_snoc]
    rw [show m ++ y :: b.drop (k + 1) = (m ++ [y]) ++ b.drop (k + 1) by simp, sort_app] at h3
    simp only [Bool.and_eq_true] at h3
    rw [h3.1, Bool.true_and]
    cases hk : a[i]? with
    | none =>
      rw [List.drop_eq_nil_of_le (List.getElem?_eq_none_iff.1 hk)]
      rfl
    | some x =>
      obtain ⟨hlt2, hxe⟩ := List.getElem?_eq_some_iff.1 hk
      have hdr2 : a.drop i = x :: a.drop (i + 1) := by rw [List.drop_eq_getElem_cons hlt2, hxe]
      rw [sort_app, hdr2, sortB, Bool.and_eq_true, Bool.and_eq_true] at h2
      rw [hdr2, sortB, decide_eq_false (by have := hc x hk; omega), h2.2.2]
      rfl
  · rw [List.filter_append, h4 id, List.take_add_one, hy, Option.toList_some, List.filter_append, List.append_assoc]
  · rcases List.mem_append.1 ht with g | g
    · exact h5 t g
    · rw [List.mem_singleton.1 g]; exact .inr (List.mem_of_getElem? hy)
theorem Mg_end {a b m : List Tl} {i k : Nat} (hap : Apart a b) (ha : okT29 a) (hb : okT29 b) (h : Mg a b i k m) (hi : a.length ≤ i) (hk : b.length ≤ k) : okT29 m := by
  obtain ⟨h1, h2, h3, h4, h5⟩ := h
  rw [List.drop_eq_nil_of_le hi, List.append_nil] at h2
  refine ⟨h2, fun id => ?_⟩
  rw [h4 id, List.take_of_length_le hi, List.take_of_length_le hk]
  rcases apart_nil hap id with g | g
  · rw [g, List.nil_append]; exact hb.2 id
  · rw [g, List.append_nil]; exact ha.2 id

set_option maxRecDepth 10000 in
theorem JudgeMerges_spec (ts us : List Tl) (hts : ∀ t, t ∈ ts → t.lv.length ≤ 1200000) (hus : ∀ t, t ∈ us → t.lv.length ≤ 1200000) : ESpec Tryd.prog 7 [.d (.view 7 (tlDs ts)), .d (.view 7 (tlDs us))] (fun x => x = .d (.s (.bool true))) := by
  obtain ⟨uLines29, huLines29⟩ : ∃ u : List Dat → Bool, u = tsP := ⟨_, rfl⟩
  obtain ⟨uLines291, huLines291⟩ : ∃ u : List Dat → List UInt8, u = fun es => linesS (unTs es) := ⟨_, rfl⟩
  obtain ⟨uLines292, huLines292⟩ : ∃ u : List Dat → Bool, u = fun es => wOK (unTs es) := ⟨_, rfl⟩
  obtain ⟨uLook, huLook⟩ : ∃ u : List UInt8 → Bool, u = leL := ⟨_, rfl⟩
  obtain ⟨uLook1, huLook1⟩ : ∃ u : List UInt8 → Int, u = fun s => (lookF s).1 := ⟨_, rfl⟩
  obtain ⟨uLook2, huLook2⟩ : ∃ u : List UInt8 → Int, u = fun s => (lookF s).2 := ⟨_, rfl⟩
  have hG : TblOK Tryd.prog [(8, .p (φAwake29 )), (12, .p (φLines29 uLines29 uLines291 uLines292)), (9, .p (φLook uLook uLook1 uLook2))] := ⟨φAwake29_ok, (by rw [huLines29, huLines291, huLines292]; exact φLines29_ok), (by rw [huLook, huLook1, huLook2]; exact φLook_ok), trivial⟩
  obtain ⟨es, hes⟩ : ∃ z, z = tlDs ts := ⟨_, rfl⟩
  obtain ⟨gs, hgs⟩ : ∃ z, z = tlDs us := ⟨_, rfl⟩
  rw [← hes, ← hgs]
  refine ESpec.enter Tryd.func7 (by kernel_rfl) rfl (Nat.le_of_ble_eq_true rfl) fun hok cx hnt hfr => ?_
  obtain ⟨F, hF⟩ := real_ex
  refine AK.runT hF tabOK hmix hnt hfr false _ hG ?_
  conv => arg 4; cbv
  have hel01 : es.length = ts.length := by rw [hes, tlDs_len]
  obtain ⟨a, ha⟩ : ∃ z, z = ts.take 60 := ⟨_, rfl⟩
  obtain ⟨ad, had⟩ : ∃ z, z = tlDs a := ⟨_, rfl⟩
  have hel1 : ad.length = a.length := by rw [had, tlDs_len]
  have hl1 : a.length ≤ 60 ∧ a.length ≤ ts.length := by rw [ha, List.length_take]; omega
  have hmin1 : F .min (F .lenD es) 60 = (a.length : Int) := by rw [hF, ha, List.length_take]; show (if (60 : Int) < (es.length : Int) then (60 : Int) else (es.length : Int)) = _; split <;> omega
  have hsub1 : F .subV es 0 (F .min (F .lenD es) 60) = ad := by
    rw [t_subV hF (i := 0) (j := a.length) (iv := 0) (jv := F .min (F .lenD es) 60) rfl hmin1, had, hes, ha, List.drop_zero, tlDs, tlDs, ← List.map_take, List.length_take]
    congr 1
    rw [Nat.min_comm]
    by_cases c : ts.length ≤ 60
    · rw [Nat.min_eq_left c, List.take_length, List.take_of_length_le c]
    · rw [Nat.min_eq_right (by omega)]
  have hhas1 : F .hasV es 0 (F .min (F .lenD es) 60) = true := t_hasV hF (i := 0) (j := a.length) rfl hmin1 (by omega) (by omega)
  have hel02 : gs.length = us.length := by rw [hgs, tlDs_len]
  obtain ⟨b, hb⟩ : ∃ z, z = us.take 60 := ⟨_, rfl⟩
  obtain ⟨bd, hbd⟩ : ∃ z, z = tlDs b := ⟨_, rfl⟩
  have hel2 : bd.length = b.length := by rw [hbd, tlDs_len]
  have hl2 : b.length ≤ 60 ∧ b.length ≤ us.length := by rw [hb, List.length_take]; omega
  have hmin2 : F .min (F .lenD gs) 60 = (b.length : Int) := by rw [hF, hb, List.length_take]; show (if (60 : Int) < (gs.length : Int) then (60 : Int) else (gs.length : Int)) = _; split <;> omega
  have hsub2 : F .subV gs 0 (F .min (F .lenD gs) 60) = bd := by
    rw [t_subV hF (i := 0) (j := b.length) (iv := 0) (jv := F .min (F .lenD gs) 60) rfl hmin2, hbd, hgs, hb, List.drop_zero, tlDs, tlDs, ← List.map_take, List.length_take]
    congr 1
    rw [Nat.min_comm]
    by_cases c : us.length ≤ 60
    · rw [Nat.min_eq_left c, List.take_length, List.take_of_length_le c]
    · rw [Nat.min_eq_right (by omega)]
  have hhas2 : F .hasV gs 0 (F .min (F .lenD gs) 60) = true := t_hasV hF (i := 0) (j := b.length) rfl hmin2 (by omega) (by omega)
  have htsP : ∀ m : List Tl, m.length ≤ 1000 → (∀ t, t ∈ m → t ∈ a ∨ t ∈ b) → tsP (tlDs m) = true := fun m hm hmt => by
    rw [tsP, tlDs_len, decide_eq_true hm, Bool.and_true, List.all_eq_true]
    intro d hd
    obtain ⟨t, ht, rfl⟩ := List.mem_map.1 hd
    refine decide_eq_true ?_
    rcases hmt t ht with h | h
    · exact hts t (List.mem_of_mem_take (by rw [← ha]; exact h))
    · exact hus t (List.mem_of_mem_take (by rw [← hb]; exact h))
  rw [hsub1, hsub2]
  refine AKt.need rfl fun _ => ?_
  rw [l_not1 hF]
  refine AKt.ff ?_
  refine AKt.need hhas1 fun _ => ?_
  refine AKt.need hhas2 fun _ => ?_
  have lenA : F .lenD ad = (a.length : Int) := by rw [hF, f_lenD, hel1]
  have lenB : F .lenD bd = (b.length : Int) := by rw [hF, f_lenD, hel2]
  have gA : ∀ (i : Nat) (iv : Int) (t : Tl), iv = i → a[i]? = some t → F .hasD ad iv [.int .i64, .int .i64, .int .i64, .str, .int .i64, .int .i64, .int .u64] = true ∧ F .intA ad iv 0 = t.a ∧ F .intA ad iv 1 = t.k ∧ F .intA ad iv 2 = t.i ∧ F .strA ad iv 3 = t.lv ∧ F .intA ad iv 4 = t.s ∧ F .intA ad iv 5 = t.w ∧ F .intA ad iv 6 = t.d := fun i iv t hiv ht => by
    have hd : ad[i]? = some t.dat := by rw [had, tlDs, List.getElem?_map, ht]; rfl
    exact ⟨t_hasD hF hd hiv rfl, t_intA hF hd hiv rfl, t_intA hF hd hiv rfl, t_intA hF hd hiv rfl, t_strA hF hd hiv rfl, t_intA hF hd hiv rfl, t_intA hF hd hiv rfl, t_intA hF hd hiv rfl⟩
  have gB : ∀ (i : Nat) (iv : Int) (t : Tl), iv = i → b[i]? = some t → F .hasD bd iv [.int .i64, .int .i64, .int .i64, .str, .int .i64, .int .i64, .int .u64] = true ∧ F .intA bd iv 0 = t.a ∧ F .intA bd iv 1 = t.k ∧ F .intA bd iv 2 = t.i ∧ F .strA bd iv 3 = t.lv ∧ F .intA bd iv 4 = t.s ∧ F .intA bd iv 5 = t.w ∧ F .intA bd iv 6 = t.d := fun i iv t hiv ht => by
    have hd : bd[i]? = some t.dat := by rw [hbd, tlDs, List.getElem?_map, ht]; rfl
    exact ⟨t_hasD hF hd hiv rfl, t_intA hF hd hiv rfl, t_intA hF hd hiv rfl, t_intA hF hd hiv rfl, t_strA hF hd hiv rfl, t_intA hF hd hiv rfl, t_intA hF hd hiv rfl, t_intA hF hd hiv rfl⟩
  repeat' (first | with_reducible refine AKt.have ?_ | with_reducible refine AKt.tt ?_ | with_reducible refine AKt.ff ?_ | with_reducible refine AKt.yes (by assumption) ?_ | with_reducible refine AKt.no (by assumption) ?_ | with_reducible refine AKt.node (fun hb => ?_) (fun hb => ?_) | with_reducible refine AKt.need ?_ (fun hb => ?_) | with_reducible refine AKt.leaf ?_ | ((with_reducible show _ = true); assumption))
  refine AKp.enterLoop 6 ?_
  conv => arg 7; cbv
  refine AKl.invT hF tabOK hmix hnt hfr false _ hG (fun n vs hs => ∃ (i : Nat) (iv : Int), i + n = a.length ∧ iv = i ∧ Apart (a.take i) b ∧ vs = [(5, .d (.s (.int .i64 iv)))] ∧ hs = []) a.length ⟨0, _, by omega, rfl, fun x y hx => (by cases hx), rfl, rfl⟩ (by repeat (first | exact True.intro | refine ⟨⟨rfl, rfl⟩, ?_⟩)) (by repeat (first | exact True.intro | refine ⟨⟨rfl, rfl, rfl⟩, ?_⟩)) ?_
  rintro J n vs hs hJ ⟨i, iv, hi, hiv, hap, rfl, rfl⟩
  conv => arg 4; cbv
  refine AKt.node (fun hb1 => ?_) (fun hb1 => ?_)
  · have hlt : i < a.length := by rw [lenA, hiv] at hb1; simp only [hF, f_ltI, f_leI, f_eqI, f_eqS, f_eqB, f_not, f_andB, f_orB, f_lenS, f_lenD, f_hasS, f_atS, f_hasC, f_subS, f_hasCat, f_app, f_wrap, f_add, f_sub, f_mul, f_appD, f_fits, f_hasV, f_subV, decide_eq_true_eq, decide_eq_false_iff_not, beq_iff_eq, beq_eq_false_iff_ne, Bool.and_eq_true, Bool.and_eq_false_iff, Bool.not_eq_true, Bool.not_eq_false, Bool.not_eq_eq_eq_not, Bool.not_true, Bool.not_false] at hb1; omega
    obtain ⟨x, hx⟩ : ∃ x, a[i]? = some x := ⟨_, List.getElem?_eq_getElem hlt⟩
    obtain ⟨x0, x1, x2, x3, x4, x5, x6, x7⟩ := gA i iv x hiv hx
    repeat' (first | with_reducible refine AKt.have ?_ | with_reducible refine AKt.tt ?_ | with_reducible refine AKt.ff ?_ | with_reducible refine AKt.yes (by assumption) ?_ | with_reducible refine AKt.no (by assumption) ?_ | with_reducible refine AKt.node (fun hb => ?_) (fun hb => ?_) | with_reducible refine AKt.need ?_ (fun hb => ?_) | with_reducible refine AKt.leaf ?_ | ((with_reducible show _ = true); assumption))
    refine AKp.enterLoop 7 ?_
    conv => arg 7; cbv
    refine AKl.invT hF tabOK hmix hnt hfr false _ hG (fun m vs hs => ∃ (k : Nat) (kv : Int), k + m = b.length ∧ kv = k ∧ (∀ y, y ∈ b.take k → x.k < 6 → y.k < 6 → ¬ x.i = y.i) ∧ vs = [(6, .d (.s (.int .i64 kv)))] ∧ hs = []) b.length ⟨0, _, by omega, rfl, fun y hy => (by cases hy), rfl, rfl⟩ (by repeat (first | exact True.intro | refine ⟨⟨rfl, rfl⟩, ?_⟩)) (by repeat (first | exact True.intro | refine ⟨⟨rfl, rfl, rfl⟩, ?_⟩)) ?_
    rintro J2 m vs hs hJ2 ⟨k, kv, hk, hkv, hno, rfl, rfl⟩
    conv => arg 4; cbv
    refine AKt.node (fun hb2 => ?_) (fun hb2 => ?_)
    · have hlt2 : k < b.length := by rw [lenB, hkv] at hb2; simp only [hF, f_ltI, f_leI, f_eqI, f_eqS, f_eqB, f_not, f_andB, f_orB, f_lenS, f_lenD, f_hasS, f_atS, f_hasC, f_subS, f_hasCat, f_app, f_wrap, f_add, f_sub, f_mul, f_appD, f_fits, f_hasV, f_subV, decide_eq_true_eq, decide_eq_false_iff_not, beq_iff_eq, beq_eq_false_iff_ne, Bool.and_eq_true, Bool.and_eq_false_iff, Bool.not_eq_true, Bool.not_eq_false, Bool.not_eq_eq_eq_not, Bool.not_true, Bool.not_false] at hb2; omega
      obtain ⟨y, hy⟩ : ∃ y, b[k]? = some y := ⟨_, List.getElem?_eq_getElem hlt2⟩
      obtain ⟨y0, y1, y2, y3, y4, y5, y6, y7⟩ := gB k kv y hkv hy
      rw [x2, x3, y2, y3]
      have next : (x.k < 6 → y.k < 6 → ¬ x.i = y.i) → ∀ z, z ∈ b.take (k + 1) → x.k < 6 → z.k < 6 → ¬ x.i = z.i := fun h z hz => by
        rw [List.take_add_one, hy, Option.toList_some] at hz
        rcases List.mem_append.1 hz with g | g
        · exact hno z g
        · rw [List.mem_singleton.1 g]; exact h
      repeat' (first | with_reducible refine AKt.have ?_ | with_reducible refine AKt.tt ?_ | with_reducible refine AKt.ff ?_ | with_reducible refine AKt.yes (by assumption) ?_ | with_reducible refine AKt.no (by assumption) ?_ | with_reducible refine AKt.node (fun hb => ?_) (fun hb => ?_) | with_reducible refine AKt.need ?_ (fun hb => ?_) | with_reducible refine AKt.leaf ?_ | ((with_reducible show _ = true); assumption))
      all_goals first
        | assumption
        | exact AKp.doneE tabOK hfr (by rfl) (by rfl)
        | (refine AKp.again _ hfr (by repeat (first | exact True.intro | refine ⟨⟨rfl, rfl⟩, ?_⟩)) (by repeat (first | exact True.intro | refine ⟨⟨rfl, rfl, rfl⟩, ?_⟩)) (hJ2 (m - 1) _ _ (by omega) ⟨k + 1, _, by omega, inc_i hF hkv (by omega), next ?_, rfl, rfl⟩)
           clear hJ hJ2 next hG hok htsP gA gB
           simp only [hF, f_ltI, f_leI, f_eqI, f_eqS, f_eqB, f_not, f_andB, f_orB, f_lenS, f_lenD, f_hasS, f_atS, f_hasC, f_subS, f_hasCat, f_app, f_wrap, f_add, f_sub, f_mul, f_appD, f_fits, f_hasV, f_subV, decide_eq_true_eq, decide_eq_false_iff_not, beq_iff_eq, beq_eq_false_iff_ne, Bool.and_eq_true, Bool.and_eq_false_iff, Bool.not_eq_true, Bool.not_eq_false, Bool.not_eq_eq_eq_not, Bool.not_true, Bool.not_false] at *
           grind)
    · have hge : ¬ k < b.length := by rw [lenB, hkv] at hb2; simp only [hF, f_ltI, f_leI, f_eqI, f_eqS, f_eqB, f_not, f_andB, f_orB, f_lenS, f_lenD, f_hasS, f_atS, f_hasC, f_subS, f_hasCat, f_app, f_wrap, f_add, f_sub, f_mul, f_appD, f_fits, f_hasV, f_subV, decide_eq_true_eq, decide_eq_false_iff_not, beq_iff_eq, beq_eq_false_iff_ne, Bool.and_eq_true, Bool.and_eq_false_iff, Bool.not_eq_true, Bool.not_eq_false, Bool.not_eq_eq_eq_not, Bool.not_true, Bool.not_false] at hb2; omega
      rw [List.take_of_length_le (by omega)] at hno
      repeat' (first | with_reducible refine AKt.have ?_ | with_reducible refine AKt.tt ?_ | with_reducible refine AKt.ff ?_ | with_reducible refine AKt.yes (by assumption) ?_ | with_reducible refine AKt.no (by assumption) ?_ | with_reducible refine AKt.node (fun hb => ?_) (fun hb => ?_) | with_reducible refine AKt.need ?_ (fun hb => ?_) | with_reducible refine AKt.leaf ?_ | ((with_reducible show _ = true); assumption))
      refine AKp.again _ hfr (by repeat (first | exact True.intro | refine ⟨⟨rfl, rfl⟩, ?_⟩)) (by repeat (first | exact True.intro | refine ⟨⟨rfl, rfl, rfl⟩, ?_⟩)) (hJ (n - 1) _ _ (by omega) ⟨i + 1, _, by omega, inc_i hF hiv (by omega), fun z y hz hy => ?_, rfl, rfl⟩)
      rw [List.take_add_one, hx, Option.toList_some] at hz
      rcases List.mem_append.1 hz with g | g
      · exact hap z y g hy
      · rw [List.mem_singleton.1 g]; exact hno y hy
  have hge : ¬ i < a.length := by rw [lenA, hiv] at hb1; simp only [hF, f_ltI, f_leI, f_eqI, f_eqS, f_eqB, f_not, f_andB, f_orB, f_lenS, f_lenD, f_hasS, f_atS, f_hasC, f_subS, f_hasCat, f_app, f_wrap, f_add, f_sub, f_mul, f_appD, f_fits, f_hasV, f_subV, decide_eq_true_eq, decide_eq_false_iff_not, beq_iff_eq, beq_eq_false_iff_ne, Bool.and_eq_true, Bool.and_eq_false_iff, Bool.not_eq_true, Bool.not_eq_false, Bool.not_eq_eq_eq_not, Bool.not_true, Bool.not_false] at hb1; omega
  rw [List.take_of_length_le (by omega)] at hap
  clear hJ hb1 hi hiv hge
  have qa : uLines29 ad = true := by subst huLines29 huLines291 huLines292 huLook huLook1 huLook2; rw [had]; exact htsP a (by omega) fun t h => .inl h
  have qb : uLines29 bd = true := by subst huLines29 huLines291 huLines292 huLook huLook1 huLook2; rw [hbd]; exact htsP b (by omega) fun t h => .inr h
  obtain ⟨sa, hsa⟩ : ∃ z, z = linesS a := ⟨_, rfl⟩
  obtain ⟨sb, hsb⟩ : ∃ z, z = linesS b := ⟨_, rfl⟩
  obtain ⟨wa, hwa⟩ : ∃ z, z = wOK a := ⟨_, rfl⟩
  obtain ⟨wb, hwb⟩ : ∃ z, z = wOK b := ⟨_, rfl⟩
  have f1 : uLines291 ad = sa := by rw [hsa, had]; subst huLines29 huLines291 huLines292 huLook huLook1 huLook2; show linesS (unTs (tlDs a)) = _; rw [un_tl]
  have f2 : uLines292 ad = wa := by rw [hwa, had]; subst huLines29 huLines291 huLines292 huLook huLook1 huLook2; show wOK (unTs (tlDs a)) = _; rw [un_tl]
  have f3 : uLines291 bd = sb := by rw [hsb, hbd]; subst huLines29 huLines291 huLines292 huLook huLook1 huLook2; show linesS (unTs (tlDs b)) = _; rw [un_tl]
  have f4 : uLines292 bd = wb := by rw [hwb, hbd]; subst huLines29 huLines291 huLines292 huLook huLook1 huLook2; show wOK (unTs (tlDs b)) = _; rw [un_tl]
  obtain ⟨ea, hea⟩ : ∃ z, z = (lookF sa).2 := ⟨_, rfl⟩
  obtain ⟨eb, heb⟩ : ∃ z, z = (lookF sb).2 := ⟨_, rfl⟩
  have f5 : uLook2 sa = ea := by rw [hea]; subst huLines29 huLines291 huLines292 huLook huLook1 huLook2; rfl
  have f6 : uLook2 sb = eb := by rw [heb]; subst huLines29 huLines291 huLines292 huLook huLook1 huLook2; rfl
  rw [f1, f2, f3, f4, f5, f6]
  refine AKt.need qa fun _ => ?_
  refine AKt.need qb fun _ => ?_
  refine AKt.node (fun hb1 => ?_) (fun hb1 => ?_)
  · repeat' (first | with_reducible refine AKt.have ?_ | with_reducible refine AKt.tt ?_ | with_reducible refine AKt.ff ?_ | with_reducible refine AKt.yes (by assumption) ?_ | with_reducible refine AKt.no (by assumption) ?_ | with_reducible refine AKt.node (fun hb => ?_) (fun hb => ?_) | with_reducible refine AKt.need ?_ (fun hb => ?_) | with_reducible refine AKt.leaf ?_ | ((with_reducible show _ = true); assumption))
    all_goals exact AKp.doneE tabOK hfr (by rfl) (by rfl)
  refine AKt.node (fun hb2 => ?_) (fun hb2 => ?_)
  · repeat' (first | with_reducible refine AKt.have ?_ | with_reducible refine AKt.tt ?_ | with_reducible refine AKt.ff ?_ | with_reducible refine AKt.yes (by assumption) ?_ | with_reducible refine AKt.no (by assumption) ?_ | with_reducible refine AKt.node (fun hb => ?_) (fun hb => ?_) | with_reducible refine AKt.need ?_ (fun hb => ?_) | with_reducible refine AKt.leaf ?_ | ((with_reducible show _ = true); assumption))
    all_goals exact AKp.doneE tabOK hfr (by rfl) (by rfl)
  have hwat : wOK a = true := by rw [← hwa]; simp only [hF, f_ltI, f_leI, f_eqI, f_eqS, f_eqB, f_not, f_andB, f_orB, f_lenS, f_lenD, f_hasS, f_atS, f_hasC, f_subS, f_hasCat, f_app, f_wrap, f_add, f_sub, f_mul, f_appD, f_fits, f_hasV, f_subV, decide_eq_true_eq, decide_eq_false_iff_not, beq_iff_eq, beq_eq_false_iff_ne, Bool.and_eq_true, Bool.and_eq_false_iff, Bool.not_eq_true, Bool.not_eq_false, Bool.not_eq_eq_eq_not, Bool.not_true, Bool.not_false] at hb1; simpa using hb1
  have hwbt : wOK b = true := by rw [← hwb]; simp only [hF, f_ltI, f_leI, f_eqI, f_eqS, f_eqB, f_not, f_andB, f_orB, f_lenS, f_lenD, f_hasS, f_atS, f_hasC, f_subS, f_hasCat, f_app, f_wrap, f_add, f_sub, f_mul, f_appD, f_fits, f_hasV, f_subV, decide_eq_true_eq, decide_eq_false_iff_not, beq_iff_eq, beq_eq_false_iff_ne, Bool.and_eq_true, Bool.and_eq_false_iff, Bool.not_eq_true, Bool.not_eq_false, Bool.not_eq_eq_eq_not, Bool.not_true, Bool.not_false] at hb2; simpa using hb2
  have q2 : uLook sa = true := by subst huLines29 huLines291 huLines292 huLook huLook1 huLook2; have := linesOf_len hwat; rw [hsa, linesS, if_pos hwat]; exact decide_eq_true (by omega)
  have q3 : uLook sb = true := by subst huLines29 huLines291 huLines292 huLook huLook1 huLook2; have := linesOf_len hwbt; rw [hsb, linesS, if_pos hwbt]; exact decide_eq_true (by omega)
  refine AKt.need q2 fun _ => ?_
  refine AKt.need q3 fun _ => ?_
  refine AKt.node (fun hb3 => ?_) (fun hb3 => ?_)
  · repeat' (first | with_reducible refine AKt.have ?_ | with_reducible refine AKt.tt ?_ | with_reducible refine AKt.ff ?_ | with_reducible refine AKt.yes (by assumption) ?_ | with_reducible refine AKt.no (by assumption) ?_ | with_reducible refine AKt.node (fun hb => ?_) (fun hb => ?_) | with_reducible refine AKt.need ?_ (fun hb => ?_) | with_reducible refine AKt.leaf ?_ | ((with_reducible show _ = true); assumption))
    all_goals exact AKp.doneE tabOK hfr (by rfl) (by rfl)
  refine AKt.node (fun hb4 => ?_) (fun hb4 => ?_)
  · repeat' (first | with_reducible refine AKt.have ?_ | with_reducible refine AKt.tt ?_ | with_reducible refine AKt.ff ?_ | with_reducible refine AKt.yes (by assumption) ?_ | with_reducible refine AKt.no (by assumption) ?_ | with_reducible refine AKt.node (fun hb => ?_) (fun hb => ?_) | with_reducible refine AKt.need ?_ (fun hb => ?_) | with_reducible refine AKt.leaf ?_ | ((with_reducible show _ = true); assumption))
    all_goals exact AKp.doneE tabOK hfr (by rfl) (by rfl)
  have hoa : okT29 a := by
    by_cases c : okT29 a
    · exact c
    · have := ((look_ok hwat (by omega)).2 c).2
      rw [← hsa, ← hea] at this
      simp only [hF, f_ltI, f_leI, f_eqI, f_eqS, f_eqB, f_not, f_andB, f_orB, f_lenS, f_lenD, f_hasS, f_atS, f_hasC, f_subS, f_hasCat, f_app, f_wrap, f_add, f_sub, f_mul, f_appD, f_fits, f_hasV, f_subV, decide_eq_true_eq, decide_eq_false_iff_not, beq_iff_eq, beq_eq_false_iff_ne, Bool.and_eq_true, Bool.and_eq_false_iff, Bool.not_eq_true, Bool.not_eq_false, Bool.not_eq_eq_eq_not, Bool.not_true, Bool.not_false] at hb3
      rw [this] at hb3
      cases hb3
  have hob : okT29 b := by
    by_cases c : okT29 b
    · exact c
    · have := ((look_ok hwbt (by omega)).2 c).2
      rw [← hsb, ← heb] at this
      simp only [hF, f_ltI, f_leI, f_eqI, f_eqS, f_eqB, f_not, f_andB, f_orB, f_lenS, f_lenD, f_hasS, f_atS, f_hasC, f_subS, f_hasCat, f_app, f_wrap, f_add, f_sub, f_mul, f_appD, f_fits, f_hasV, f_subV, decide_eq_true_eq, decide_eq_false_iff_not, beq_iff_eq, beq_eq_false_iff_ne, Bool.and_eq_true, Bool.and_eq_false_iff, Bool.not_eq_true, Bool.not_eq_false, Bool.not_eq_eq_eq_not, Bool.not_true, Bool.not_false] at hb4
      rw [this] at hb4
      cases hb4
  clear hb1 hb2 hb3 hb4
  repeat' (first | with_reducible refine AKt.have ?_ | with_reducible refine AKt.tt ?_ | with_reducible refine AKt.ff ?_ | with_reducible refine AKt.yes (by assumption) ?_ | with_reducible refine AKt.no (by assumption) ?_ | with_reducible refine AKt.node (fun hb => ?_) (fun hb => ?_) | with_reducible refine AKt.need ?_ (fun hb => ?_) | with_reducible refine AKt.leaf ?_ | ((with_reducible show _ = true); assumption))
  refine AKp.asRow 15 37 7 (by decide) rfl ?_
  conv => arg 4; arg 2; cbv
  refine AKp.enterLoop 18 ?_
  conv => arg 7; cbv
  refine AKl.invT hF tabOK hmix hnt hfr true _ hG (fun n vs hs => ∃ (i k : Nat) (iv kv : Int) (m : List Tl) (md : List Dat), i + k + n = a.length + b.length ∧ i ≤ a.length ∧ k ≤ b.length ∧ iv = i ∧ kv = k ∧ Mg a b i k m ∧ md = tlDs m ∧ vs = [(16, .d (.s (.int .i64 iv))), (17, .d (.s (.int .i64 kv))), (15, .row 0 7)] ∧ hs = [(0, .ds 37 7 md)]) (a.length + b.length) ⟨0, 0, _, _, [], [], by omega, by omega, by omega, rfl, rfl, Mg_nil hoa.1 hob.1, rfl, rfl, rfl⟩ (by repeat (first | exact True.intro | refine ⟨⟨rfl, rfl⟩, ?_⟩)) (by repeat (first | exact True.intro | refine ⟨⟨rfl, rfl, rfl⟩, ?_⟩)) ?_
  rintro J n vs hs hJ ⟨i, k, iv, kv, m, md, hn, hil, hkl, hiv, hkv, hmg, hmd, rfl, rfl⟩
  conv => arg 4; cbv
  have hml : m.length ≤ 120 := by have := hmg.1; omega
  by_cases c1 : i < a.length
  · obtain ⟨x, hx⟩ : ∃ x, a[i]? = some x := ⟨_, List.getElem?_eq_getElem c1⟩
    obtain ⟨x0, x1, x2, x3, x4, x5, x6, x7⟩ := gA i iv x hiv hx
    have bA : F .ltI iv (F .lenD ad) = true := by rw [lenA, hiv, hF, f_ltI]; exact decide_eq_true (by omega)
    rw [x1, x2, x3, x4, x5, x6, x7]
    obtain ⟨nx, hnx⟩ : ∃ z, z = F .appD md [.agg [.s (.int .i64 x.a), .s (.int .i64 x.k), .s (.int .i64 x.i), .s (.str x.lv), .s (.int .i64 x.s), .s (.int .i64 x.w), .s (.int .u64 x.d)]] := ⟨_, rfl⟩
    have enx : nx = tlDs (m ++ [x]) := by rw [hnx, hF, f_appD, hmd]; simp [tlDs, Tl.dat]
    have ftx : F .fits 64 nx = true := t_fits hF (by rw [enx, tlDs_len, List.length_append]; simp; omega)
    rw [← hnx]
    by_cases c2 : k < b.length
    · obtain ⟨y, hy⟩ : ∃ y, b[k]? = some y := ⟨_, List.getElem?_eq_getElem c2⟩
      obtain ⟨y0, y1, y2, y3, y4, y5, y6, y7⟩ := gB k kv y hkv hy
      have bE : F .eqI kv (F .lenD bd) = false := by rw [lenB, hkv, hF, f_eqI]; simpa using (show ¬ (k : Int) = (b.length : Int) by omega)
      rw [y1, y2, y3, y4, y5, y6, y7]
      obtain ⟨ny, hny⟩ : ∃ z, z = F .appD md [.agg [.s (.int .i64 y.a), .s (.int .i64 y.k), .s (.int .i64 y.i), .s (.str y.lv), .s (.int .i64 y.s), .s (.int .i64 y.w), .s (.int .u64 y.d)]] := ⟨_, rfl⟩
      have eny : ny = tlDs (m ++ [y]) := by rw [hny, hF, f_appD, hmd]; simp [tlDs, Tl.dat]
      have fty : F .fits 64 ny = true := t_fits hF (by rw [eny, tlDs_len, List.length_append]; simp; omega)
      rw [← hny]
      refine AKt.yes bA ?_
      refine AKt.no bE ?_
      refine AKt.yes bA ?_
      refine AKt.need x0 fun _ => ?_
      refine AKt.need y0 fun _ => ?_
      refine AKt.node (fun hb => ?_) (fun hb => ?_)
      · have hle : x.a ≤ y.a := by simp only [hF, f_ltI, f_leI, f_eqI, f_eqS, f_eqB, f_not, f_andB, f_orB, f_lenS, f_lenD, f_hasS, f_atS, f_hasC, f_subS, f_hasCat, f_app, f_wrap, f_add, f_sub, f_mul, f_appD, f_fits, f_hasV, f_subV, decide_eq_true_eq, decide_eq_false_iff_not, beq_iff_eq, beq_eq_false_iff_ne, Bool.and_eq_true, Bool.and_eq_false_iff, Bool.not_eq_true, Bool.not_eq_false, Bool.not_eq_eq_eq_not, Bool.not_true, Bool.not_false] at hb; exact hb
        repeat' (first | with_reducible refine AKt.have ?_ | with_reducible refine AKt.tt ?_ | with_reducible refine AKt.ff ?_ | with_reducible refine AKt.yes (by assumption) ?_ | with_reducible refine AKt.no (by assumption) ?_ | with_reducible refine AKt.node (fun hb => ?_) (fun hb => ?_) | with_reducible refine AKt.need ?_ (fun hb => ?_) | with_reducible refine AKt.leaf ?_ | ((with_reducible show _ = true); assumption))
        refine AKp.againR [(0, 1)] _ hfr (by repeat (first | exact True.intro | refine ⟨⟨rfl, rfl⟩, ?_⟩)) (by repeat (first | exact True.intro | refine ⟨⟨Nat.le_of_ble_eq_true rfl, rfl, rfl⟩, ?_⟩)) rfl (hJ (n - 1) _ _ (by omega) ⟨i + 1, k, _, _, m ++ [x], _, by omega, by omega, by omega, inc_i hF hiv (by omega), hkv, Mg_a hap hmg hx (fun z hz => by rw [hy] at hz; cases hz; exact hle), enx, rfl, rfl⟩)
      · have hle : y.a ≤ x.a := by simp only [hF, f_ltI, f_leI, f_eqI, f_eqS, f_eqB, f_not, f_andB, f_orB, f_lenS, f_lenD, f_hasS, f_atS, f_hasC, f_subS, f_hasCat, f_app, f_wrap, f_add, f_sub, f_mul, f_appD, f_fits, f_hasV, f_subV, decide_eq_true_eq, decide_eq_false_iff_not, beq_iff_eq, beq_eq_false_iff_ne, Bool.and_eq_true, Bool.and_eq_false_iff, Bool.not_eq_true, Bool.not_eq_false, Bool.not_eq_eq_eq_not, Bool.not_true, Bool.not_false] at hb; omega
        repeat' (first | with_reducible refine AKt.have ?_ | with_reducible refine AKt.tt ?_ | with_reducible refine AKt.ff ?_ | with_reducible refine AKt.yes (by assumption) ?_ | with_reducible refine AKt.no (by assumption) ?_ | with_reducible refine AKt.node (fun hb => ?_) (fun hb => ?_) | with_reducible refine AKt.need ?_ (fun hb => ?_) | with_reducible refine AKt.leaf ?_ | ((with_reducible show _ = true); assumption))
        refine AKp.againR [(0, 1)] _ hfr (by repeat (first | exact True.intro | refine ⟨⟨rfl, rfl⟩, ?_⟩)) (by repeat (first | exact True.intro | refine ⟨⟨Nat.le_of_ble_eq_true rfl, rfl, rfl⟩, ?_⟩)) rfl (hJ (n - 1) _ _ (by omega) ⟨i, k + 1, _, _, m ++ [y], _, by omega, by omega, by omega, hiv, inc_i hF hkv (by omega), Mg_b hmg hy (fun z hz => by rw [hx] at hz; cases hz; exact hle), eny, rfl, rfl⟩)
    · have bE : F .eqI kv (F .lenD bd) = true := by rw [lenB, hkv, hF, f_eqI]; simpa using (show (k : Int) = (b.length : Int) by omega)
      refine AKt.yes bA ?_
      refine AKt.yes bE ?_
      repeat' (first | with_reducible refine AKt.have ?_ | with_reducible refine AKt.tt ?_ | with_reducible refine AKt.ff ?_ | with_reducible refine AKt.yes (by assumption) ?_ | with_reducible refine AKt.no (by assumption) ?_ | with_reducible refine AKt.node (fun hb => ?_) (fun hb => ?_) | with_reducible refine AKt.need ?_ (fun hb => ?_) | with_reducible refine AKt.leaf ?_ | ((with_reducible show _ = true); assumption))
      refine AKp.againR [(0, 1)] _ hfr (by repeat (first | exact True.intro | refine ⟨⟨rfl, rfl⟩, ?_⟩)) (by repeat (first | exact True.intro | refine ⟨⟨Nat.le_of_ble_eq_true rfl, rfl, rfl⟩, ?_⟩)) rfl (hJ (n - 1) _ _ (by omega) ⟨i + 1, k, _, _, m ++ [x], _, by omega, by omega, by omega, inc_i hF hiv (by omega), hkv, Mg_a hap hmg hx (fun z hz => by rw [List.getElem?_eq_none (by omega)] at hz; cases hz), enx, rfl, rfl⟩)
  · have bA : F .ltI iv (F .lenD ad) = false := by rw [lenA, hiv, hF, f_ltI]; exact decide_eq_false (by omega)
    by_cases c2 : k < b.length
    · obtain ⟨y, hy⟩ : ∃ y, b[k]? = some y := ⟨_, List.getElem?_eq_getElem c2⟩
      obtain ⟨y0, y1, y2, y3, y4, y5, y6, y7⟩ := gB k kv y hkv hy
      have bE : F .eqI kv (F .lenD bd) = false := by rw [lenB, hkv, hF, f_eqI]; simpa using (show ¬ (k : Int) = (b.length : Int) by omega)
      have bB : F .ltI kv (F .lenD bd) = true := by rw [lenB, hkv, hF, f_ltI]; exact decide_eq_true (by omega)
      rw [y1, y2, y3, y4, y5, y6, y7]
      obtain ⟨ny, hny⟩ : ∃ z, z = F .appD md [.agg [.s (.int .i64 y.a), .s (.int .i64 y.k), .s (.int .i64 y.i), .s (.str y.lv), .s (.int .i64 y.s), .s (.int .i64 y.w), .s (.int .u64 y.d)]] := ⟨_, rfl⟩
      have eny : ny = tlDs (m ++ [y]) := by rw [hny, hF, f_appD, hmd]; simp [tlDs, Tl.dat]
      have fty : F .fits 64 ny = true := t_fits hF (by rw [eny, tlDs_len, List.length_append]; simp; omega)
      rw [← hny]
      refine AKt.no bA ?_
      refine AKt.yes bB ?_
      refine AKt.no bE ?_
      refine AKt.no bA ?_
      repeat' (first | with_reducible refine AKt.have ?_ | with_reducible refine AKt.tt ?_ | with_reducible refine AKt.ff ?_ | with_reducible refine AKt.yes (by assumption) ?_ | with_reducible refine AKt.no (by assumption) ?_ | with_reducible refine AKt.node (fun hb => ?_) (fun hb => ?_) | with_reducible refine AKt.need ?_ (fun hb => ?_) | with_reducible refine AKt.leaf ?_ | ((with_reducible show _ = true); assumption))
      refine AKp.againR [(0, 1)] _ hfr (by repeat (first | exact True.intro | refine ⟨⟨rfl, rfl⟩, ?_⟩)) (by repeat (first | exact True.intro | refine ⟨⟨Nat.le_of_ble_eq_true rfl, rfl, rfl⟩, ?_⟩)) rfl (hJ (n - 1) _ _ (by omega) ⟨i, k + 1, _, _, m ++ [y], _, by omega, by omega, by omega, hiv, inc_i hF hkv (by omega), Mg_b hmg hy (fun z hz => by rw [List.getElem?_eq_none (by omega)] at hz; cases hz), eny, rfl, rfl⟩)
    · have bB : F .ltI kv (F .lenD bd) = false := by rw [lenB, hkv, hF, f_ltI]; exact decide_eq_false (by omega)
      have q4 : uLines29 md = true := by subst huLines29 huLines291 huLines292 huLook huLook1 huLook2; rw [hmd]; exact htsP m (by omega) hmg.2.2.2.2
      have hwm : wOK m = true := List.all_eq_true.2 fun t ht => by
        rcases hmg.2.2.2.2 t ht with h | h
        · exact List.all_eq_true.1 hwat t h
        · exact List.all_eq_true.1 hwbt t h
      obtain ⟨u, hu⟩ : ∃ z, z = linesS m := ⟨_, rfl⟩
      have f7 : uLines291 md = u := by rw [hu, hmd]; subst huLines29 huLines291 huLines292 huLook huLook1 huLook2; show linesS (unTs (tlDs m)) = _; rw [un_tl]
      have hul : u.length ≤ 326 * m.length := by rw [hu, linesS, if_pos hwm]; exact linesOf_len hwm
      have q5 : uLook u = true := by subst huLines29 huLines291 huLines292 huLook huLook1 huLook2; exact decide_eq_true (by omega)
      have res : lookF u = (0, 0) := by rw [hu]; exact (look_ok hwm (by omega)).1 (Mg_end hap hoa hob hmg (by omega) (by omega))
      have f8 : uLook1 u = 0 := by subst huLines29 huLines291 huLines292 huLook huLook1 huLook2; exact congrArg Prod.fst res
      have f9 : uLook2 u = 0 := by subst huLines29 huLines291 huLines292 huLook huLook1 huLook2; exact congrArg Prod.snd res
      have eqI : ∀ b : Int, F .eqI b b = true := fun b => by rw [hF, f_eqI]; simp
      refine AKt.no bA ?_
      refine AKt.no bB ?_
      repeat' (first | with_reducible refine AKt.have ?_ | with_reducible refine AKt.tt ?_ | with_reducible refine AKt.ff ?_ | with_reducible refine AKt.yes (by assumption) ?_ | with_reducible refine AKt.no (by assumption) ?_ | with_reducible refine AKt.node (fun hb => ?_) (fun hb => ?_) | with_reducible refine AKt.need ?_ (fun hb => ?_) | with_reducible refine AKt.leaf ?_ | ((with_reducible show _ = true); assumption))
      refine AKp.freeze 0 rfl ?_
      conv => arg 4; arg 2; cbv
      refine AK.runT hF tabOK hmix hnt hfr false _ hG ?_
      conv => arg 4; cbv
      rw [f7, f8, f9, eqI]
      repeat' (first | with_reducible refine AKt.have ?_ | with_reducible refine AKt.tt ?_ | with_reducible refine AKt.ff ?_ | with_reducible refine AKt.yes (by assumption) ?_ | with_reducible refine AKt.no (by assumption) ?_ | with_reducible refine AKt.node (fun hb => ?_) (fun hb => ?_) | with_reducible refine AKt.need ?_ (fun hb => ?_) | with_reducible refine AKt.leaf ?_ | ((with_reducible show _ = true); assumption))
      all_goals exact AKp.doneE tabOK hfr (by rfl) (by rfl)
end Go.Proofs.YtlcgjeafmbbipaaDoor

/- The law of what is put together, as its card wants it. -/
namespace Go.Proofs.YtlcgjeafmbbipaaDoor
open Go Go.Proofs Go.Ua Go.Extern
theorem JudgeMergesU_spec (ts us : List Tl) (h1 : bulkL [.view 7 (tlDs ts)] ≤ 1048576) (h2 : bulkL [.view 7 (tlDs us)] ≤ 1048576) : ESpec Tryd.prog 7 [.d (.view 7 (tlDs ts)), .d (.view 7 (tlDs us))] (fun x => x = .d (.s (.bool true))) := JudgeMerges_spec ts us (bulk_told h1) (bulk_told h2)
end Go.Proofs.YtlcgjeafmbbipaaDoor
