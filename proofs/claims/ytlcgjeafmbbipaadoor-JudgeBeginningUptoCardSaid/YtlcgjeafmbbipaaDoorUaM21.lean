/- The library of this claim and its walks, part 21, joined out of smaller texts. No statement stands in it. -/
import Derived.Test.YtlcgjeafmbbipaaDoorUaM20
import Derived.Test.YtlcgjeafmbbipaaDoorRows
/- How much a reading is: what the bound of an Upto row gives. -/
namespace Go.Proofs.YtlcgjeafmbbipaaDoor
open Go Go.Proofs Go.Ua
set_option linter.unusedVariables false
set_option linter.unusedSimpArgs false

def bulkS : Sc → Nat
  | .str s => s.length + 1
  | _ => 1
mutual
def bulk1 : Dat → Nat
  | .s x => bulkS x
  | .agg cs => bulkL cs
  | .view _ es => bulkL es + 1
  | .iface _ _ => 0
  | .vref _ => 0
def bulkL : List Dat → Nat
  | [] => 0
  | d :: r => bulk1 d + bulkL r
end
theorem bulkL_app (a b : List Dat) : bulkL (a ++ b) = bulkL a + bulkL b := by
  induction a with
  | nil => simp [bulkL]
  | cons x a ih => simp only [List.cons_append, bulkL, ih]; omega
theorem bulk_one (ag : Bool) (l : List Dat) : bulk1 (oneD ag l) ≤ bulkL l := by
  cases ag with
  | true => exact Nat.le_of_eq (by simp [oneD, bulk1])
  | false =>
    cases l with
    | nil => simp [oneD, bulk1, bulkL]
    | cons x l => simp only [oneD, List.headD_cons, bulkL]; omega
theorem bulk_map {H : Type} (g : DataW H → Dat) : ∀ es : List (DataW H), (∀ x, x ∈ es → bulk1 (g x) ≤ Rows.uptoBulk x) → bulkL (es.map g) ≤ Rows.uptoBulkAll es
  | [], _ => by simp [bulkL]
  | x :: es, h => by
    have h1 := h x (by simp)
    have h2 := bulk_map g es fun y hy => h y (List.mem_cons_of_mem _ hy)
    simp only [List.map_cons, bulkL, Rows.uptoBulkAll]
    omega
theorem bulk_zip {H : Type} (g : (Nat × TypeId) → DataW H → List Dat) : ∀ (fs : List (Nat × TypeId)) (es : List (DataW H)), (∀ f x, x ∈ es → bulkL (g f x) ≤ Rows.uptoBulk x) → bulkL (((fs.zip es).map fun p => g p.1 p.2).flatten) ≤ Rows.uptoBulkAll es
  | [], es, _ => by simp [bulkL]
  | f :: fs, [], _ => by simp [bulkL]
  | f :: fs, x :: es, h => by
    have h1 := h f x (by simp)
    have h2 := bulk_zip g fs es fun f y hy => h f y (List.mem_cons_of_mem _ hy)
    simp only [List.zip_cons_cons, List.map_cons, List.flatten_cons, bulkL_app, Rows.uptoBulkAll]
    omega
theorem bulk_dat {H : Type} (τ : Tab) : ∀ (f : Nat) (t : TypeId) (d : DataW H), bulkL (datOf τ f t d) ≤ Rows.uptoBulk d
  | 0, t, d => by simp [datOf, bulkL]
  | f + 1, t, d => by
    unfold datOf
    split
    · simp [bulkL]
    · split
      · simp [bulkL, bulk1, bulkS, Rows.uptoBulk]
      · simp [bulkL, bulk1, bulkS, Rows.uptoBulk]
      · simp [bulkL, bulk1, bulkS, Rows.uptoBulk]
      · simp [bulkL, bulk1, Rows.uptoBulk]
      · rename_i e es sp _
        have := bulk_map (fun x => oneD (aggAt τ e) (datOf τ f e x)) es fun x _ => Nat.le_trans (bulk_one _ _) (bulk_dat τ f e x)
        simp only [bulkL, bulk1, Rows.uptoBulk]
        omega
      · rename_i fs ps _
        have := bulk_zip (fun p x => datOf τ f p.2 x) fs ps fun p x _ => bulk_dat τ f p.2 x
        simp only [Rows.uptoBulk]
        omega
      · simp [bulkL]
theorem bulk_in {H : Type} {d : DataW H} {l : List (DataW H)} (h : d ∈ l) : Rows.uptoBulk d ≤ Rows.uptoBulkAll l := by
  induction l with
  | nil => cases h
  | cons x r ih =>
    simp only [Rows.uptoBulkAll]
    rcases List.mem_cons.1 h with e | e
    · subst e; omega
    · have := ih e; omega
theorem bulk_of {H : Type} {τ : Tab} {f : Nat} {t : TypeId} {d : DataW H} {l : List (DataW H)} {x : List Dat} (hk : Rows.uptoSmall H l = true) (h : d ∈ l) (hx : datOf τ f t d = x) : bulkL x ≤ 1048576 := by
  have h1 : Rows.uptoBulkAll l ≤ 1048576 := of_decide_eq_true hk
  rw [← hx]
  exact Nat.le_trans (bulk_dat τ f t d) (Nat.le_trans (bulk_in h) h1)
theorem bulk_str {s : List UInt8} (h : bulkL [.s (.str s)] ≤ 1048576) : s.length ≤ 1048576 := by
  simp only [bulkL, bulk1, bulkS] at h
  omega
end Go.Proofs.YtlcgjeafmbbipaaDoor

/- What cards want of lists of texts, and of texts. -/
namespace Go.Proofs.YtlcgjeafmbbipaaDoor
open Go Go.Proofs Go.Ua Go.Extern
set_option linter.unusedVariables false

theorem typed_str {f : Nat} {l : List Dat} (h : typed tab (f + 1) 9 l) : ∃ s, l = [.s (.str s)] := by
  obtain ⟨s, rfl, _⟩ := h
  exact ⟨s, rfl⟩
theorem typed_strs {f : Nat} {l : List Dat} (h : typed tab (f + 2) 29 l) : ∃ zs, l = [.view 1 (strDs zs)] := by
  obtain ⟨es, rfl, hlen, hes⟩ := h
  clear hlen
  have : ∃ zs, es = strDs zs := by
    induction es with
    | nil => exact ⟨[], rfl⟩
    | cons x es ih =>
      obtain ⟨zs, rfl⟩ := ih fun x hx => hes x (List.mem_cons_of_mem _ hx)
      obtain ⟨l', rfl, s, rfl, _⟩ := hes x (by simp)
      exact ⟨s :: zs, rfl⟩
  obtain ⟨zs, rfl⟩ := this
  exact ⟨zs, rfl⟩
end Go.Proofs.YtlcgjeafmbbipaaDoor

/- The laws as the cards want them. -/
namespace Go.Proofs.YtlcgjeafmbbipaaDoor
open Go Go.Proofs Go.Ua Go.Extern
set_option linter.unusedVariables false
set_option linter.unusedSimpArgs false

theorem JudgeBeginningU_spec (s : List UInt8) (at_ : Int) (hs : bulkL [.s (.str s)] ≤ 1048576) : ESpec Tryd.prog 4 [.d (.s (.str s)), .d (.s (.int .i64 at_))] (fun x => x = .d (.s (.bool true))) := JudgeBeginning_spec s at_ (bulk_str hs)

def toldCells (t : Tl) : List Dat := [.s (.int .i64 t.a), .s (.int .i64 t.k), .s (.int .i64 t.i), .s (.str t.lv), .s (.int .i64 t.s), .s (.int .i64 t.w), .s (.int .u64 t.d)]
theorem len7 {α : Type} {l : List α} (h : l.length = 7) : ∃ a b c d e f g, l = [a, b, c, d, e, f, g] := by
  match l, h with
  | [a, b, c, d, e, f, g], _ => exact ⟨a, b, c, d, e, f, g, rfl⟩
theorem typed_told {f : Nat} {l : List Dat} (h : typed tab (f + 2) 37 l) : ∃ t : Tl, l = toldCells t := by
  obtain ⟨ls, hlen, rfl, hall⟩ := h
  obtain ⟨a, b, c, d, e, f, g, rfl⟩ := len7 hlen
  obtain ⟨n0, rfl, _⟩ := hall 0 (0, 3) a rfl rfl
  obtain ⟨n1, rfl, _⟩ := hall 1 (1, 3) b rfl rfl
  obtain ⟨n2, rfl, _⟩ := hall 2 (2, 3) c rfl rfl
  obtain ⟨s3, rfl, _⟩ := hall 3 (3, 9) d rfl rfl
  obtain ⟨n4, rfl, _⟩ := hall 4 (4, 3) e rfl rfl
  obtain ⟨n5, rfl, _⟩ := hall 5 (5, 23) f rfl rfl
  obtain ⟨n6, rfl, _⟩ := hall 6 (6, 35) g rfl rfl
  exact ⟨⟨n0, n1, n2, s3, n4, n5, n6⟩, rfl⟩
theorem typed_tolds {f : Nat} {l : List Dat} (h : typed tab (f + 3) 32 l) : ∃ ts, l = [.view 7 (tlDs ts)] := by
  obtain ⟨es, rfl, hlen, hes⟩ := h
  clear hlen
  have : ∃ ts, es = tlDs ts := by
    induction es with
    | nil => exact ⟨[], rfl⟩
    | cons x es ih =>
      obtain ⟨ts, rfl⟩ := ih fun x hx => hes x (List.mem_cons_of_mem _ hx)
      obtain ⟨l', rfl, h2⟩ := hes x (by simp)
      obtain ⟨t, rfl⟩ := typed_told h2
      exact ⟨t :: ts, rfl⟩
  obtain ⟨ts, rfl⟩ := this
  exact ⟨ts, rfl⟩
theorem bulk_told {ts : List Tl} (h : bulkL [.view 7 (tlDs ts)] ≤ 1048576) : ∀ t, t ∈ ts → t.lv.length ≤ 1200000 := by
  have key : ∀ (l : List Tl) (t : Tl), t ∈ l → t.lv.length ≤ bulkL (tlDs l) := by
    intro l
    induction l with
    | nil => intro t h; cases h
    | cons x l ih =>
      intro t h
      have e : bulkL (tlDs (x :: l)) = bulk1 x.dat + bulkL (tlDs l) := rfl
      rw [e]
      rcases List.mem_cons.1 h with h | h
      · subst h
        simp only [Tl.dat, bulk1, bulkL, bulkS]
        omega
      · have := ih t h; omega
  intro t ht
  have h1 := key ts t ht
  simp only [bulkL, bulk1] at h
  omega
theorem JudgeApartU_spec (ts : List Tl) (id : Int) (h : bulkL [.view 7 (tlDs ts)] ≤ 1048576) : ESpec Tryd.prog 6 [.d (.view 7 (tlDs ts)), .d (.s (.int .i64 id))] (fun x => x = .d (.s (.bool true))) := JudgeApart_spec ts id (bulk_told h)
end Go.Proofs.YtlcgjeafmbbipaaDoor
