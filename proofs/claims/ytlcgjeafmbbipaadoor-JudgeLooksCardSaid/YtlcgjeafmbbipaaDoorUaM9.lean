/- The library of this claim and its walks, part 9, joined out of smaller texts. No statement stands in it. -/
import Derived.Test.YtlcgjeafmbbipaaDoorUaM8
import Derived.Orders
/- Regions that draw their order: every order comes to what the text's order comes to. A library of this claim's own: no statement stands in it. -/
namespace Go.Ua
open Go Go.Proofs
set_option linter.unusedVariables false
set_option linter.unusedSimpArgs false
set_option linter.unusedSectionVars false

theorem evl_congr {S S' : St} {x : Operand} (h : ∀ t, x = .tmp t → look t S.t = look t S'.t) : evl S x = evl S' x := by
  cases x with
  | tmp t => simp only [evl, h t rfl]
  | const v => rfl
  | global g => rfl
  | func f => rfl

theorem loadAV_h {τ : Tab} {S S' : St} (h : S.h = S'.h) (t : TypeId) (p : AV) : loadAV τ S t p = loadAV τ S' t p := by
  cases S; cases S'; cases h; rfl

theorem rowIndexAV_h {A : Ar} {τ : Tab} {S S' : St} (h : S.h = S'.h) (t : TypeId) (n k : Nat) (p : AV) : rowIndexAV A τ S t n k p = rowIndexAV A τ S' t n k p := by
  cases S; cases S'; cases h; rfl

theorem rowSliceAV_h {A : Ar} {τ : Tab} {S S' : St} (h : S.h = S'.h) (t : TypeId) (n k : Nat) (x y z : Option AV) : rowSliceAV A τ S t n k x y z = rowSliceAV A τ S' t n k x y z := by
  cases S; cases S'; cases h; rfl

theorem rowLenAV_h {A : Ar} {τ : Tab} {S S' : St} (h : S.h = S'.h) (t : TypeId) (n k : Nat) : rowLenAV A τ S t n k = rowLenAV A τ S' t n k := by
  cases S; cases S'; cases h; rfl

theorem evls_congr {S S' : St} {l : List Operand} (h : ∀ x, x ∈ l → evl S x = evl S' x) : evls S l = evls S' l := by
  rw [evls_eq, evls_eq]
  exact List.map_congr_left h

theorem evps_congr {S S' : St} {l : List (Nat × Operand)} (h : ∀ p, p ∈ l → evl S p.2 = evl S' p.2) : evps S l = evps S' l := by
  rw [evps_eq, evps_eq]
  exact List.map_congr_left fun p hp => by rw [h p hp]

theorem omap_congr {S S' : St} {x : Option Operand} (h : ∀ y, x = some y → evl S y = evl S' y) : omap S x = omap S' x := by
  cases x with
  | none => rfl
  | some y => simp only [omap, h y rfl]

theorem pureOp_congr {A : Ar} {τ : Tab} {S S' : St} (hh : S.h = S'.h) (op : Op) (h : ∀ x, x ∈ op.operands.toList → evl S x = evl S' x) : pureOp A τ S op = pureOp A τ S' op := by
  cases op <;> simp only [Op.operands] at h <;> simp only [pureOp]
  case move x => rw [h x (by simp)]
  case assign x => rw [h x (by simp)]
  case pick c x y => rw [h c (by simp), h x (by simp), h y (by simp)]
  case load t p => rw [h p (by simp), loadAV_h hh]
  case nilCheck x => rw [h x (by simp)]
  case binOp op t x y u => rw [h x (by simp), h y (by simp)]
  case unOp op t x => rw [h x (by simp)]
  case convert s d x => rw [h x (by simp)]
  case makeInterface t x => rw [h x (by simp)]
  case makeFunc f xs ys => rw [evls_congr (l := xs.toList) (fun x hx => h x (by simp [Array.mem_toList_iff.1 hx])), evls_congr (l := ys.toList) (fun x hx => h x (by simp [Array.mem_toList_iff.1 hx]))]
  case slice t x lo hi mx =>
    rw [h x (by simp), omap_congr (x := lo) (fun y hy => h y (by simp [hy])), omap_congr (x := hi) (fun y hy => h y (by simp [hy])), omap_congr (x := mx) (fun y hy => h y (by simp [hy]))]
    split
    · rw [rowSliceAV_h hh]
    · rfl
  case fieldAddr t x f => rw [h x (by simp)]
  case field t x f => rw [h x (by simp)]
  case indexAddr t x i =>
    rw [h x (by simp), h i (by simp)]
    split
    · rw [rowIndexAV_h hh]
    · rfl
  case index t x i => rw [h x (by simp), h i (by simp)]
  case extract x i => rw [h x (by simp)]
  case build t ps => rw [evps_congr (l := ps.toList) (fun p hp => h p.2 (by simp only [List.mem_map]; exact ⟨p, hp, rfl⟩))]
  case call c =>
    cases hc : c.callee with
    | builtin b =>
      rw [evls_congr (l := c.args.toList) (fun x hx => h x (by simp [Call.operands, Array.mem_toList_iff.1 hx]))]
      simp only
      split
      · rw [rowLenAV_h hh]
      · rfl
    | value f => rfl
    | invoke r m => rfl

section
variable {P : Program} [Globs P] {τ : Tab} {cx : Cx P} {Q : Exit → Act → World → Prop}

/-- What an operation looks at. -/
def looksT (all : List Oper) (o : Oper) : List Nat := o.looksAt all.toArray

theorem guardB_congr {all : List Oper} {S S' : St} {o : Oper} (h : ∀ t, t ∈ looksT all o → look t S.t = look t S'.t) : guardB all S o = guardB all S' o := by
  unfold guardB
  split
  · rfl
  · rename_i j want hg
    split
    · rename_i oj hj
      split
      · rename_i d hd
        rw [h d (by simp [looksT, Oper.looksAt, hg, hj, hd])]
      · rfl
    · rfl

theorem pureOp_looks {A : Ar} {all : List Oper} {S S' : St} {o : Oper} (hh : S.h = S'.h) (h : ∀ t, t ∈ looksT all o → look t S.t = look t S'.t) : pureOp A τ S o.op = pureOp A τ S' o.op := by
  refine pureOp_congr hh o.op fun x hx => evl_congr fun t ht => h t ?_
  subst ht
  simp only [looksT, Oper.looksAt, List.mem_append]
  exact .inl (List.mem_filterMap.2 ⟨.tmp t, hx, rfl⟩)

/-- The operation j, whatever else has been done, yields z. -/
def StepOK (P : Program) [Globs P] (cx : Cx P) (all : List Oper) (S0 : St) (j : Nat) (o : Oper) (z : AV) : Prop :=
  ∀ (Q : Exit → Act → World → Prop) (K : Act → World → Prop) (ι : Io) (S : St) (a : Act) (w : World), Rel cx.X cx.L cx.w0 cx.nt ι S a w → S.h = S0.h → S.fr = S0.fr →
    (∀ t, t ∈ looksT all o → look t S.t = look t S0.t) → (∀ ι' a' w', Rel cx.X cx.L cx.w0 cx.nt ι' (S.put o.dst z) a' w' → K a' w') → wpOp P all.toArray Q j K a w

/-- The first n operations, each whatever else has been done, yield what the state S says. -/
inductive Good (P : Program) [Globs P] (cx : Cx P) (all : List Oper) (S0 : St) : List AV → St → Prop where
  | nil : Good P cx all S0 [] S0
  | snoc {zs : List AV} {S : St} {o : Oper} (z : AV) : Good P cx all S0 zs S → all[zs.length]? = some o → StepOK P cx all S zs.length o z → Good P cx all S0 (zs ++ [z]) (S.put o.dst z)

theorem Good.h {all : List Oper} {S0 S : St} {zs : List AV} (G : Good P cx all S0 zs S) : S.h = S0.h ∧ S.fr = S0.fr := by
  induction G with
  | nil => exact ⟨rfl, rfl⟩
  | @snoc zs S o z _ _ _ ih =>
    have : (S.put o.dst z).h = S.h ∧ (S.put o.dst z).fr = S.fr := by cases o.dst <;> exact ⟨rfl, rfl⟩
    exact ⟨this.1.trans ih.1, this.2.trans ih.2⟩

theorem look_put_ne {S : St} {d : Option Nat} {z : AV} {t : Nat} (h : d ≠ some t) : look t (S.put d z).t = look t S.t := by
  cases d with
  | none => rfl
  | some d =>
    simp only [St.put, look_cons, look_del]
    rw [if_neg (fun e => h (by rw [e]))]
    rw [if_neg (fun e => h (by rw [e]))]

theorem look_put_eq {S : St} {z : AV} {d : Nat} : look d (S.put (some d) z).t = some z := by
  simp [St.put, look_cons]

theorem Good.look0 {all : List Oper} {S0 S : St} {zs : List AV} (G : Good P cx all S0 zs S) {t : Nat} (h : ∀ (i : Nat) (o : Oper), i < zs.length → all[i]? = some o → o.dst ≠ some t) : look t S.t = look t S0.t := by
  induction G with
  | nil => rfl
  | @snoc zs S o z _ ho _ ih =>
    rw [look_put_ne (h _ o (by simp) ho)]
    exact ih fun i o hi => h i o (by simp; omega)

theorem Good.look1 {all : List Oper} {S0 S : St} {zs : List AV} (G : Good P cx all S0 zs S) {t i : Nat} {o : Oper} {z : AV} (ho : all[i]? = some o) (hd : o.dst = some t) (hz : zs[i]? = some z)
    (hu : ∀ (j : Nat) (o' : Oper), j < zs.length → all[j]? = some o' → o'.dst = some t → j = i) : look t S.t = some z := by
  induction G with
  | nil => simp at hz
  | @snoc zs S o' z' _ ho' _ ih =>
    by_cases hi : i = zs.length
    · subst hi
      rw [ho] at ho'
      cases ho'
      rw [List.getElem?_append_right (Nat.le_refl _), Nat.sub_self] at hz
      simp only [List.getElem?_cons_zero, Option.some.injEq] at hz
      subst hz
      rw [hd]
      exact look_put_eq
    · have hlt : i < zs.length := by
        have := (List.getElem?_eq_some_iff.1 hz).1
        simp at this
        omega
      rw [look_put_ne (fun e => hi (hu _ o' (by simp) ho' e).symm)]
      rw [List.getElem?_append_left hlt] at hz
      exact ih hz fun j o'' hj => hu j o'' (by simp; omega)

theorem Good.get {all : List Oper} {S0 S : St} {zs : List AV} (G : Good P cx all S0 zs S) {j : Nat} (hj : j < zs.length) :
    ∃ o z Sj, all[j]? = some o ∧ zs[j]? = some z ∧ Good P cx all S0 (zs.take j) Sj ∧ StepOK P cx all Sj j o z := by
  induction G with
  | nil => simp at hj
  | @snoc zs S o z G ho hs ih =>
    by_cases hi : j = zs.length
    · subst hi
      exact ⟨o, z, S, ho, by simp, by simpa using G, hs⟩
    · have hlt : j < zs.length := by simp at hj; omega
      obtain ⟨o', z', Sj, h1, h2, h3, h4⟩ := ih hlt
      exact ⟨o', z', Sj, h1, by rw [List.getElem?_append_left hlt]; exact h2, by rw [List.take_append_of_le_length (by omega)]; exact h3, h4⟩

def memN (n : Nat) : List Nat → Bool
  | [] => false
  | m :: l => (match Nat.beq m n with
    | true => true
    | false => memN n l)

theorem memN_mem {n : Nat} : ∀ {l : List Nat}, memN n l = true → n ∈ l
  | [], h => by simp [memN] at h
  | m :: l, h => by
    simp only [memN] at h
    split at h
    · rename_i e
      rw [Nat.eq_of_beq_eq_true e]
      simp
    · exact List.mem_cons_of_mem _ (memN_mem h)

def edgesN : List Edge → List Nat
  | [] => []
  | e :: l => (match Region.binds .any e with
    | true => e.on :: edgesN l
    | false => edgesN l)

theorem edgesN_mem {n : Nat} : ∀ {l : List Edge}, n ∈ edgesN l ↔ ∃ e, e ∈ l ∧ Region.binds .any e = true ∧ e.on = n
  | [] => by simp [edgesN]
  | e :: l => by
    simp only [edgesN]
    split
    · rename_i hb
      rw [List.mem_cons, edgesN_mem (l := l)]
      constructor
      · rintro (rfl | ⟨e', h1, h2, h3⟩)
        · exact ⟨e, by simp, hb, rfl⟩
        · exact ⟨e', by simp [h1], h2, h3⟩
      · rintro ⟨e', h1, h2, h3⟩
        rcases List.mem_cons.1 h1 with rfl | h1
        · exact .inl h3.symm
        · exact .inr ⟨e', h1, h2, h3⟩
    · rename_i hb
      rw [edgesN_mem (l := l)]
      constructor
      · rintro ⟨e', h1, h2, h3⟩
        exact ⟨e', by simp [h1], h2, h3⟩
      · rintro ⟨e', h1, h2, h3⟩
        rcases List.mem_cons.1 h1 with rfl | h1
        · rw [h2] at hb; cases hb
        · exact ⟨e', h1, h2, h3⟩

def wrN (t : Nat) : Nat → List Oper → List Nat
  | _, [] => []
  | i, o :: r => (match o.dst with
    | some d => (match Nat.beq d t with
      | true => i :: wrN t (i + 1) r
      | false => wrN t (i + 1) r)
    | none => wrN t (i + 1) r)

theorem wrN_mem {t : Nat} : ∀ {l : List Oper} {i j : Nat} {o : Oper}, l[j]? = some o → o.dst = some t → i + j ∈ wrN t i l
  | [], i, j, o, h, _ => by simp at h
  | o' :: l, i, 0, o, h, hd => by
    simp only [List.getElem?_cons_zero, Option.some.injEq] at h
    subst h
    simp [wrN, hd]
  | o' :: l, i, j + 1, o, h, hd => by
    have := wrN_mem (i := i + 1) (by simpa using h) hd
    rw [show i + (j + 1) = i + 1 + j by omega]
    simp only [wrN]
    split
    · split
      · exact List.mem_cons_of_mem _ this
      · exact this
    · exact this

/-- Each looks at nothing but what stood ahead of all of them, or is written by one that it waits for; and nothing is written twice. -/
def chkFree (pre all : List Oper) : Nat → List Oper → Bool
  | _, [] => true
  | j, o :: r => (match (edgesN o.after.toList).all (fun i => Nat.blt i j), (looksT all o).all (fun t => (wrN t 0 pre).all (fun i => memN i (edgesN o.after.toList))), (match o.dst with
      | some d => (wrN d 0 pre).all (fun i => Nat.beq i j)
      | none => true) with
    | true, true, true => chkFree pre all (j + 1) r
    | _, _, _ => false)

/-- What those wait for. -/
def nextE (all : List Oper) : List Nat → List Nat
  | [] => []
  | i :: l => (match all[i]? with
    | some o => edgesN o.after.toList ++ nextE all l
    | none => nextE all l)

/-- What one waits for, directly or through others. -/
def reachN (all : List Oper) : Nat → List Nat → List Nat
  | 0, l => l
  | f + 1, l => l ++ reachN all f (nextE all l)

/-- Each waits for all ahead of it, directly or through others. -/
def chkTail (all : List Oper) : Nat → List Oper → Bool
  | _, [] => true
  | j, o :: r => (match (edgesN o.after.toList).all (fun i => Nat.blt i j), (List.range j).all (fun i => memN i (reachN all 6 (edgesN o.after.toList))) with
    | true, true => chkTail all (j + 1) r
    | _, _ => false)

theorem nextE_mem {all : List Oper} {n : Nat} : ∀ {l : List Nat}, n ∈ nextE all l → ∃ k o, k ∈ l ∧ all[k]? = some o ∧ n ∈ edgesN o.after.toList
  | [], h => by simp [nextE] at h
  | i :: l, h => by
    simp only [nextE] at h
    split at h
    · rename_i o ho
      rcases List.mem_append.1 h with h | h
      · exact ⟨i, o, by simp, ho, h⟩
      · obtain ⟨k, o', h1, h2, h3⟩ := nextE_mem h
        exact ⟨k, o', List.mem_cons_of_mem _ h1, h2, h3⟩
    · obtain ⟨k, o', h1, h2, h3⟩ := nextE_mem h
      exact ⟨k, o', List.mem_cons_of_mem _ h1, h2, h3⟩

theorem reachN_all {all : List Oper} {p : Nat → Prop} (hp : ∀ (k : Nat) (o : Oper) (n : Nat), p k → all[k]? = some o → n ∈ edgesN o.after.toList → p n) :
    ∀ (f : Nat) (l : List Nat), (∀ n, n ∈ l → p n) → ∀ n, n ∈ reachN all f l → p n
  | 0, l, h, n, hn => h n hn
  | f + 1, l, h, n, hn => by
    simp only [reachN] at hn
    rcases List.mem_append.1 hn with hn | hn
    · exact h n hn
    · refine reachN_all hp f _ (fun m hm => ?_) n hn
      obtain ⟨k, o, h1, h2, h3⟩ := nextE_mem hm
      exact hp k o m (h k h1) h2 h3

def chkAny (m : Nat) (all : List Oper) : Bool := match chkFree (all.take m) all 0 (all.take m), chkTail all m (all.drop m) with
  | true, true => true
  | _, _ => false

theorem chkFree_get {pre all : List Oper} : ∀ {l : List Oper} {i j : Nat} {o : Oper}, chkFree pre all i l = true → l[j]? = some o →
    (∀ n, n ∈ edgesN o.after.toList → n < i + j) ∧ (∀ t, t ∈ looksT all o → ∀ n, n ∈ wrN t 0 pre → n ∈ edgesN o.after.toList) ∧ (∀ d, o.dst = some d → ∀ n, n ∈ wrN d 0 pre → n = i + j)
  | [], i, j, o, _, h => by simp at h
  | o' :: l, i, j, o, hc, h => by
    simp only [chkFree] at hc
    split at hc
    · rename_i h1 h2 h3
      cases j with
      | zero =>
        simp only [List.getElem?_cons_zero, Option.some.injEq] at h
        subst h
        refine ⟨fun n hn => blt_lt (List.all_eq_true.1 h1 n hn), fun t ht n hn => memN_mem (List.all_eq_true.1 (List.all_eq_true.1 h2 t ht) n hn), fun d hd n hn => ?_⟩
        rw [hd] at h3
        exact Nat.eq_of_beq_eq_true (List.all_eq_true.1 h3 n hn)
      | succ j =>
        have := chkFree_get (j := j) hc (by simpa using h)
        rw [show i + (j + 1) = i + 1 + j by omega]
        exact this
    · cases hc

theorem chkTail_get {all : List Oper} : ∀ {l : List Oper} {i j : Nat} {o : Oper}, chkTail all i l = true → l[j]? = some o →
    (∀ n, n ∈ edgesN o.after.toList → n < i + j) ∧ (∀ n, n < i + j → n ∈ reachN all 6 (edgesN o.after.toList))
  | [], i, j, o, _, h => by simp at h
  | o' :: l, i, j, o, hc, h => by
    simp only [chkTail] at hc
    split at hc
    · rename_i h1 h2
      cases j with
      | zero =>
        simp only [List.getElem?_cons_zero, Option.some.injEq] at h
        subst h
        exact ⟨fun n hn => blt_lt (List.all_eq_true.1 h1 n hn), fun n hn => memN_mem (List.all_eq_true.1 h2 n (List.mem_range.2 hn))⟩
      | succ j =>
        have := chkTail_get (j := j) hc (by simpa using h)
        rw [show i + (j + 1) = i + 1 + j by omega]
        exact this
    · cases hc

theorem count_set : ∀ (l : List Bool) (i : Nat), l[i]? = some false → ((l.set i true).filter (!·)).length + 1 = (l.filter (!·)).length
  | [], i, h => by simp at h
  | b :: l, 0, h => by
    simp only [List.getElem?_cons_zero, Option.some.injEq] at h
    subst h
    simp
  | b :: l, i + 1, h => by
    have := count_set l i (by simpa using h)
    cases b <;> simp [this] <;> omega

theorem ready_iff {all : List Oper} {listed : Array Bool} {j : Nat} : j ∈ Region.ready .any all.toArray listed ↔
    listed.getD j true = false ∧ ∃ o, all[j]? = some o ∧ ∀ n, n ∈ edgesN o.after.toList → listed.getD n false = true := by
  rw [mem_ready]
  constructor
  · rintro ⟨h1, o, h2, h3⟩
    refine ⟨h1, o, by simpa using h2, fun n hn => ?_⟩
    obtain ⟨e, he, hb, rfl⟩ := edgesN_mem.1 hn
    exact h3 e (Array.mem_toList_iff.1 he) hb
  · rintro ⟨h1, o, h2, h3⟩
    exact ⟨h1, o, by simpa using h2, fun e he hb => h3 _ (edgesN_mem.2 ⟨e, Array.mem_toList_iff.2 he, hb, rfl⟩)⟩

theorem getD_tf {listed : Array Bool} {j : Nat} : listed.getD j true = false ↔ listed[j]? = some false := by
  rw [Array.getD_eq_getD_getElem?]
  cases h : listed[j]? with
  | none => simp
  | some b => simp

theorem getD_ft {listed : Array Bool} {j : Nat} : listed.getD j false = true ↔ listed[j]? = some true := by
  rw [Array.getD_eq_getD_getElem?]
  cases h : listed[j]? with
  | none => simp
  | some b => simp

theorem any_tail {all : List Oper} (E : ∀ (k : Nat) (o : Oper) (n : Nat), all[k]? = some o → n ∈ edgesN o.after.toList → n < k) : ∀ (r : List Oper) (m fuel : Nat) (listed : Array Bool) (a : Act) (w : World), r = all.drop m → chkTail all m r = true → listed.size = all.length →
    (∀ j, listed.getD j false = true ↔ j < m ∧ j < all.length) → r.length ≤ fuel → wpList P all.toArray Q r a w → wpAny P .any all.toArray Q fuel listed a w
  | [], m, fuel, listed, a, w, hr, hc, hs, hl, hf, H => by
    have hm : all.length ≤ m := by
      have := congrArg List.length hr
      simp at this
      omega
    refine wpAny_done (List.eq_nil_iff_forall_not_mem.2 fun j hj => ?_) H fuel
    obtain ⟨h1, o, h2, _⟩ := ready_iff.1 hj
    have hlt := (List.getElem?_eq_some_iff.1 h2).1
    have := (hl j).2 ⟨by omega, hlt⟩
    rw [getD_tf] at h1
    rw [getD_ft, h1] at this
    cases this
  | o :: r, m, fuel, listed, a, w, hr, hc, hs, hl, hf, H => by
    have ho : all[m]? = some o := by
      have := congrArg (·[0]?) hr
      simpa using this.symm
    have hmn := (List.getElem?_eq_some_iff.1 ho).1
    have hr' : r = all.drop (m + 1) := by
      have := congrArg List.tail hr
      simpa using this
    have hun : listed[m]? = some false := by
      have : listed[m]? = some listed[m] := Array.getElem?_eq_getElem (by omega)
      cases hb : listed[m] with
      | false => rw [this, hb]
      | true =>
        rw [hb] at this
        have := (hl m).1 (getD_ft.2 this)
        omega
    cases fuel with
    | zero => simp at hf
    | succ fuel =>
      have hme := chkTail_get (j := 0) hc rfl
      refine ⟨fun h => ?_, fun i hi => ?_⟩
      · have : m ∈ Region.ready .any all.toArray listed := ready_iff.2 ⟨getD_tf.2 hun, o, ho, fun n hn => (hl n).2 ⟨hme.1 n hn, by have := hme.1 n hn; omega⟩⟩
        rw [h] at this
        cases this
      · obtain ⟨h1, oi, h2, h3⟩ := ready_iff.1 hi
        have hin := (List.getElem?_eq_some_iff.1 h2).1
        have him : i = m := by
          rcases Nat.lt_trichotomy i m with h4 | h4 | h4
          · have := (hl i).2 ⟨h4, hin⟩
            rw [getD_ft] at this
            rw [getD_tf, this] at h1
            cases h1
          · exact h4
          · have hg : (o :: r)[i - m]? = some oi := by
              rw [hr, List.getElem?_drop, show m + (i - m) = i by omega]
              exact h2
            have hreach := (chkTail_get hc hg).2 m (by omega)
            have := reachN_all (p := fun n => n < m) (fun k ok n hk hok hn => by have := E k ok n hok hn; omega) 6 (edgesN oi.after.toList) (fun n hn => ((hl n).1 (h3 n hn)).1) m hreach
            omega
        subst him
        have hstep : wpOp P all.toArray Q i (wpList P all.toArray Q r) a w := by
          unfold wpOp
          have : all.toArray[i]? = some o := by simpa using ho
          rw [this]
          exact H
        refine wpOp_mono (fun a' w' h' => ?_) hstep
        have hc' : chkTail all (i + 1) r = true := by
          simp only [chkTail] at hc
          split at hc
          · exact hc
          · cases hc
        refine any_tail E r (i + 1) fuel _ a' w' hr' hc' (by simp [hs]) (fun j => ?_) (by simpa using hf) h'
        rw [getD_ft, Array.getElem?_setIfInBounds]
        by_cases hij : i = j
        · subst hij
          simp [hs, hmn]
        · rw [if_neg hij, ← getD_ft, hl j]
          omega

theorem Rel.drew {X L : Nat → Prop} {w0 : W0} {nt : Nat} {ι : Io} {S : St} {a : Act} {w : World} (H : Rel X L w0 nt ι S a w) : Rel X L w0 nt ι S a { w with drawn := w.drawn + 1 } := by
  have hR : ∀ b o v, rdOf L ι S.h w b o v → rdOf L ι S.h { w with drawn := w.drawn + 1 } b o v := fun b o v h => h
  exact ⟨⟨fun n b hb => RepB.mono (w := w) (w' := { w with drawn := w.drawn + 1 }) hR (fun _ _ h => h) (fun _ _ _ _ => rfl) (H.hr.hp n b hb), H.hr.inj, H.hr.out, H.hr.fresh, H.hr.lb, ⟨H.hr.kp.os, H.hr.kp.tape, H.hr.kp.output, H.hr.kp.size, H.hr.kp.block⟩, H.hr.old⟩,
    fun t x ht => (H.tm t x ht).mono hR (fun _ _ h => h), H.sz, H.df⟩

structure Inv (all : List Oper) (S0 : St) (zs : List AV) (listed : Array Bool) (S : St) : Prop where
  h : S.h = S0.h
  fr : S.fr = S0.fr
  on : ∀ (i : Nat) (o : Oper) (z : AV) (t : Nat), i < zs.length → listed[i]? = some true → all[i]? = some o → o.dst = some t → zs[i]? = some z → look t S.t = some z
  off : ∀ t, (∀ (i : Nat) (o : Oper), i < zs.length → listed[i]? = some true → all[i]? = some o → o.dst ≠ some t) → look t S.t = look t S0.t

theorem any_free {all : List Oper} {S0 S : St} {zs : List AV} (G : Good P cx all S0 zs S) (hm : zs.length ≤ all.length) (hc : chkAny zs.length all = true)
    (tail : ∀ ι a w, Rel cx.X cx.L cx.w0 cx.nt ι S a w → wpList P all.toArray Q (all.drop zs.length) a w) :
    ∀ (fuel : Nat) (listed : Array Bool) (S1 : St) (ι : Io) (a : Act) (w : World), listed.size = all.length → (listed.toList.filter (!·)).length ≤ fuel → (∀ j, zs.length ≤ j → listed[j]? ≠ some true) → (∀ (k : Nat) (o : Oper) (n : Nat), listed[k]? = some true → all[k]? = some o → n ∈ edgesN o.after.toList → listed[n]? = some true) → Inv all S0 zs listed S1 →
      Rel cx.X cx.L cx.w0 cx.nt ι S1 a w → wpAny P .any all.toArray Q fuel listed a w := by
  obtain ⟨hcf, hct⟩ : chkFree (all.take zs.length) all 0 (all.take zs.length) = true ∧ chkTail all zs.length (all.drop zs.length) = true := by
    unfold chkAny at hc
    split at hc
    · exact ⟨by assumption, by assumption⟩
    · cases hc
  have pre : ∀ {j : Nat} {o : Oper}, j < zs.length → all[j]? = some o → (all.take zs.length)[j]? = some o := by
    intro j o hj ho
    rw [List.getElem?_take, if_pos hj]; exact ho
  have edg : ∀ {j : Nat} {o : Oper}, j < zs.length → all[j]? = some o → ∀ n, n ∈ edgesN o.after.toList → n < j := by
    intro j o hj ho n hn
    have := (chkFree_get hcf (pre hj ho)).1 n hn
    omega
  have E : ∀ (k : Nat) (o : Oper) (n : Nat), all[k]? = some o → n ∈ edgesN o.after.toList → n < k := by
    intro k o n hk hn
    rcases Nat.lt_or_ge k zs.length with h | h
    · exact edg h hk n hn
    · have hg : (all.drop zs.length)[k - zs.length]? = some o := by
        rw [List.getElem?_drop, show zs.length + (k - zs.length) = k by omega]; exact hk
      have := (chkTail_get hct hg).1 n hn
      omega
  have ops : ∀ {j i : Nat} {o oi : Oper} {t : Nat}, j < zs.length → all[j]? = some o → t ∈ looksT all o → i < zs.length → all[i]? = some oi → oi.dst = some t → i ∈ edgesN o.after.toList := by
    intro j i o oi t hj ho ht hi hoi hd
    have := (chkFree_get hcf (pre hj ho)).2.1 t ht (0 + i) (wrN_mem (pre hi hoi) hd)
    simpa using this
  have dis : ∀ {j i : Nat} {o oi : Oper} {t : Nat}, j < zs.length → all[j]? = some o → o.dst = some t → i < zs.length → all[i]? = some oi → oi.dst = some t → i = j := by
    intro j i o oi t hj ho ht hi hoi hd
    have := (chkFree_get hcf (pre hj ho)).2.2 t ht (0 + i) (wrN_mem (pre hi hoi) hd)
    omega
  have can : ∀ {j : Nat} {Sj : St}, j ≤ zs.length → Good P cx all S0 (zs.take j) Sj → ∀ {i : Nat} {oi : Oper} {z : AV} {t : Nat}, i < j → all[i]? = some oi → oi.dst = some t → zs[i]? = some z → look t Sj.t = some z := by
    intro j Sj hj Gj i oi z t hi hoi hd hz
    refine Gj.look1 hoi hd (by rw [List.getElem?_take, if_pos hi]; exact hz) fun j' o' h1 h2 h3 => ?_
    rw [List.length_take] at h1
    exact dis (by omega) hoi hd (by omega) h2 h3
  have wri : ∀ (t k : Nat), (∃ i oi, i < k ∧ all[i]? = some oi ∧ oi.dst = some t) ∨ ∀ (i : Nat) (oi : Oper), i < k → all[i]? = some oi → oi.dst ≠ some t := by
    intro t k
    by_cases h : ∃ i oi, i < k ∧ all[i]? = some oi ∧ oi.dst = some t
    · exact .inl h
    · exact .inr fun i oi h1 h2 h3 => h ⟨i, oi, h1, h2, h3⟩
  intro fuel
  induction fuel with
  | zero =>
    intro listed S1 ι a w hs hf hno hcl hI H
    have hall : ∀ j, j < all.length → listed[j]? = some true := by
      intro j hj
      have h1 : listed[j]? = some listed[j] := Array.getElem?_eq_getElem (by omega)
      cases hb : listed[j] with
      | true => rw [h1, hb]
      | false =>
        rw [hb] at h1
        have := count_set listed.toList j (by simpa using h1)
        omega
    refine any_tail E _ zs.length 0 listed a w rfl hct hs (fun j => ⟨fun h => ?_, fun h => getD_ft.2 (hall j h.2)⟩) ?_ (tail ι a w ⟨?_, fun t x ht => ?_, H.sz, H.df⟩)
    · rw [getD_ft] at h
      have hj : j < all.length := by have := (Array.getElem?_eq_some_iff.1 h).1; omega
      exact ⟨Nat.lt_of_not_le fun hle => hno j hle h, hj⟩
    · rw [List.length_drop]
      rcases Nat.lt_or_ge zs.length all.length with h | h
      · exact absurd (hall _ h) (hno _ (Nat.le_refl _))
      · omega
    · rw [G.h.1, G.h.2, ← hI.h, ← hI.fr]
      exact H.hr
    · rw [G.h.1, ← hI.h]
      refine H.tm t x ?_
      rcases wri t zs.length with ⟨i, oi, h1, h2, h3⟩ | h1
      · obtain ⟨z, hz⟩ : ∃ z, zs[i]? = some z := ⟨zs[i], List.getElem?_eq_getElem h1⟩
        rw [can (Nat.le_refl _) (by simpa using G) h1 h2 h3 hz] at ht
        rw [hI.on i oi z t h1 (hall i (by omega)) h2 h3 hz]
        exact ht
      · rw [G.look0 h1] at ht
        rw [hI.off t fun i o h2 _ h3 => h1 i o h2 h3]
        exact ht
  | succ fuel ih =>
    intro listed S1 ι a w hs hf hno hcl hI H
    by_cases hall : ∀ j, j < zs.length → listed[j]? = some true
    · have hg : ∀ j, listed.getD j false = true ↔ j < zs.length ∧ j < all.length := by
        intro j
        refine ⟨fun h => ?_, fun h => getD_ft.2 (hall j h.1)⟩
        rw [getD_ft] at h
        have hj : j < all.length := by have := (Array.getElem?_eq_some_iff.1 h).1; omega
        exact ⟨Nat.lt_of_not_le fun hle => hno j hle h, hj⟩
      refine any_tail E _ zs.length (fuel + 1) listed a w rfl hct hs hg ?_ (tail ι a w ⟨?_, fun t x ht => ?_, H.sz, H.df⟩)
      · refine Nat.le_trans ?_ hf
        have key : ∀ (l : List Bool) (m : Nat), (∀ j, m ≤ j → l[j]? ≠ some true) → l.length - m ≤ (l.filter (!·)).length := by
          intro l
          induction l with
          | nil => intro m _; simp
          | cons b l ihl =>
            intro m hm
            cases m with
            | zero =>
              have hb : b = false := by
                have := hm 0 (Nat.le_refl _)
                cases b
                · rfl
                · simp at this
              have := ihl 0 fun j _ => by have := hm (j + 1) (by omega); simpa using this
              subst hb
              simp at this ⊢
              omega
            | succ m =>
              have := ihl m fun j hj => by have := hm (j + 1) (by omega); simpa using this
              cases b <;> simp at this ⊢ <;> omega
        have := key listed.toList zs.length fun j hj => by have := hno j hj; simpa using this
        rw [List.length_drop]
        simp only [Array.length_toList, hs] at this
        exact this
      · rw [G.h.1, G.h.2, ← hI.h, ← hI.fr]
        exact H.hr
      · rw [G.h.1, ← hI.h]
        refine H.tm t x ?_
        rcases wri t zs.length with ⟨i, oi, h1, h2, h3⟩ | h1
        · obtain ⟨z, hz⟩ : ∃ z, zs[i]? = some z := ⟨zs[i], List.getElem?_eq_getElem h1⟩
          rw [can (Nat.le_refl _) (by simpa using G) h1 h2 h3 hz] at ht
          rw [hI.on i oi z t h1 (hall i h1) h2 h3 hz]
          exact ht
        · rw [G.look0 h1] at ht
          rw [hI.off t fun i o h2 _ h3 => h1 i o h2 h3]
          exact ht
    · refine ⟨fun h => ?_, fun i hi => ?_⟩
      · -- somebody is ready
        exfalso
        have least : ∀ k, k ≤ zs.length → (∀ j, j < k → listed[j]? = some true) ∨ ∃ j, j < k ∧ listed[j]? = some false ∧ ∀ j', j' < j → listed[j']? = some true := by
          intro k
          induction k with
          | zero => intro _; exact .inl fun j hj => absurd hj (by omega)
          | succ k ihk =>
            intro hk
            rcases ihk (by omega) with h1 | ⟨j, h1, h2, h3⟩
            · have h2 : listed[k]? = some listed[k] := Array.getElem?_eq_getElem (by omega)
              cases hb : listed[k] with
              | true =>
                rw [hb] at h2
                refine .inl fun j hj => ?_
                rcases Nat.lt_or_ge j k with h3 | h3
                · exact h1 j h3
                · obtain rfl : j = k := by omega
                  exact h2
              | false =>
                rw [hb] at h2
                exact .inr ⟨k, by omega, h2, h1⟩
            · exact .inr ⟨j, by omega, h2, h3⟩
        rcases least zs.length (Nat.le_refl _) with h1 | ⟨j, h1, h2, h3⟩
        · exact hall h1
        · have hj : all[j]? = some all[j] := List.getElem?_eq_getElem (by omega)
          have : j ∈ Region.ready .any all.toArray listed := ready_iff.2 ⟨getD_tf.2 h2, _, hj, fun n hn => getD_ft.2 (h3 n (edg h1 hj n hn))⟩
          rw [h] at this
          cases this
      · obtain ⟨h1, oi, h2, h3⟩ := ready_iff.1 hi
        rw [getD_tf] at h1
        have hin := (List.getElem?_eq_some_iff.1 h2).1
        have him : i < zs.length := by
          rcases Nat.lt_or_ge i zs.length with h4 | h4
          · exact h4
          · exfalso
            refine hall fun j hj => ?_
            have hg : (all.drop zs.length)[i - zs.length]? = some oi := by
              rw [List.getElem?_drop, show zs.length + (i - zs.length) = i by omega]; exact h2
            exact reachN_all (p := fun n => listed[n]? = some true) hcl 6 (edgesN oi.after.toList) (fun n hn => getD_ft.1 (h3 n hn)) j ((chkTail_get hct hg).2 j (by omega))
        obtain ⟨o, z, Sj, g1, g2, g3, g4⟩ := G.get him
        rw [h2] at g1
        cases g1
        refine g4 Q _ ι S1 a w H (by rw [g3.h.1, hI.h]) (by rw [g3.h.2, hI.fr]) (fun t ht => ?_) fun ι' a' w' H' => ?_
        · rcases wri t zs.length with ⟨j, oj, f1, f2, f3⟩ | f1
          · have hje := ops him h2 ht f1 f2 f3
            have hji := edg him h2 j hje
            obtain ⟨zj, hzj⟩ : ∃ z, zs[j]? = some z := ⟨zs[j], List.getElem?_eq_getElem f1⟩
            rw [hI.on j oj zj t f1 (getD_ft.1 (h3 j hje)) f2 f3 hzj, can (by omega) g3 hji f2 f3 hzj]
          · rw [hI.off t fun j o f2 _ f3 => f1 j o f2 f3]
            refine (g3.look0 fun j o f2 f3 => f1 j o ?_ f3).symm
            rw [List.length_take] at f2
            omega
        · refine ih _ (S1.put oi.dst z) ι' a' w' (by simp [hs]) ?_ (fun j hj => ?_) ?_ ⟨?_, ?_, ?_, ?_⟩ H'
          · have := count_set listed.toList i (by simpa using h1)
            rw [Array.toList_setIfInBounds]
            omega
          · rw [Array.getElem?_setIfInBounds, if_neg (by omega)]
            exact hno j hj
          · intro k ok n f1 f2 f3
            have mono : ∀ j : Nat, listed[j]? = some true → (listed.setIfInBounds i true)[j]? = some true := by
              intro j hj
              rw [Array.getElem?_setIfInBounds]
              by_cases hij : i = j
              · subst hij
                rw [if_pos rfl, if_pos (Array.getElem?_eq_some_iff.1 hj).1]
              · rw [if_neg hij]; exact hj
            rw [Array.getElem?_setIfInBounds] at f1
            by_cases hik : i = k
            · subst hik
              rw [h2] at f2
              cases f2
              exact mono n (getD_ft.1 (h3 n f3))
            · rw [if_neg hik] at f1
              exact mono n (hcl k ok n f1 f2 f3)
          · rw [← hI.h]; cases oi.dst <;> rfl
          · rw [← hI.fr]; cases oi.dst <;> rfl
          · intro j oj zj t f1 f2 f3 f4 f5
            by_cases hij : i = j
            · subst hij
              rw [h2] at f3
              cases f3
              rw [g2] at f5
              cases f5
              rw [f4]
              exact look_put_eq
            · rw [Array.getElem?_setIfInBounds, if_neg hij] at f2
              rw [look_put_ne fun e => hij (dis f1 f3 f4 him h2 e)]
              exact hI.on j oj zj t f1 f2 f3 f4 f5
          · intro t ht
            have hti : oi.dst ≠ some t := ht i oi him (by rw [Array.getElem?_setIfInBounds, if_pos rfl, if_pos (by omega)]) h2
            rw [look_put_ne hti]
            refine hI.off t fun j oj f1 f2 f3 => ?_
            by_cases hij : i = j
            · subst hij
              rw [h1] at f2
              cases f2
            · exact ht j oj f1 (by rw [Array.getElem?_setIfInBounds, if_neg hij]; exact f2) f3

/-- A region that draws its order, once its first operations were done in the text's order. -/
def DK (P : Program) [Globs P] (cx : Cx P) (Q : Exit → Act → World → Prop) (all : List Oper) (id : Nat) (k : List KI) (S0 : St) (p : List Oper × St) : Prop :=
  ∀ zs, Good P cx all S0 zs p.2 → all.drop zs.length = p.1 → zs.length ≤ all.length → AK P cx Q (.code (.region id all.toArray true) :: k) S0

theorem DK.fin {all rest : List Oper} {id : Nat} {k : List KI} {S0 S : St} (hm : P.follows .mixedOrders = true) (hc : chkAny (all.length - rest.length) all = true)
    (H : AK P cx Q (.ops all rest :: k) S) : DK P cx Q all id k S0 (rest, S) := by
  intro zs G hr hl ι a w HR
  have hlen : all.length - rest.length = zs.length := by
    simp only at hr
    rw [← hr, List.length_drop]
    omega
  rw [hlen] at hc
  have drew : ∀ {w : World}, Rel cx.X cx.L cx.w0 cx.nt ι S0 a w → Rel cx.X cx.L cx.w0 cx.nt ι S0 a { w with drawn := w.drawn + 1 } := fun H => H.drew
  show (Code.region id all.toArray true).wp P (den P cx Q k) a w
  refine wp_region_any hm ?_
  refine any_free G hl hc (fun ι a w H' => ?_) all.toArray.size (Array.replicate all.toArray.size false) S0 ι a _ (by simp) ?_ (fun j _ => ?_) (fun k o n h _ _ => ?_) ⟨rfl, rfl, fun i o z t _ h => ?_, fun t _ => rfl⟩ (drew HR)
  · rw [hr]
    exact H ι a w H'
  · exact Nat.le_trans (List.length_filter_le _ _) (by simp)
  · rw [Array.getElem?_replicate]
    split <;> simp
  · rw [Array.getElem?_replicate] at h
    split at h <;> simp at h
  · rw [Array.getElem?_replicate] at h
    split at h <;> simp at h

theorem AKp.drawn {ops : Array Oper} {id : Nat} {k : List KI} {S : St} (h : DK P cx Q ops.toList id k S (ops.toList, S)) : AKp P cx Q (.code (.region id ops true) :: k, S) :=
  h [] .nil rfl (Nat.zero_le _)

def runD (A : Ar) (τ : Tab) (nt : Nat) (all : List Oper) : Nat → List Oper → St → List Oper × St
  | _, [], S => ([], S)
  | j, o :: r, S => (match chkTail all j (o :: r) with
    | true => (o :: r, S)
    | false => (match (match o.dst with
        | some d => Nat.blt d nt
        | none => true), guardB all S o with
      | true, some true => (match pureOp A τ S o.op with
        | some z => runD A τ nt all (j + 1) r (S.put o.dst z)
        | none => (o :: r, S))
      | true, some false => runD A τ nt all (j + 1) r (S.put o.dst (.tup []))
      | _, _ => (o :: r, S)))

theorem dst_lt {o : Oper} {nt : Nat} (h : (match o.dst with
    | some d => Nat.blt d nt
    | none => true) = true) : ∀ n, o.dst = some n → n < nt := by
  intro n hn
  rw [hn] at h
  exact blt_lt h

theorem drop_cons {α : Type} {l r : List α} {o : α} {n : Nat} (h : l.drop n = o :: r) : l[n]? = some o ∧ l.drop (n + 1) = r ∧ n + 1 ≤ l.length := by
  have h1 : l[n]? = some o := by
    have := congrArg (·[0]?) h
    simpa using this
  refine ⟨h1, ?_, ?_⟩
  · have := congrArg List.tail h
    simpa using this
  · have := (List.getElem?_eq_some_iff.1 h1).1
    omega

theorem DK.snoc {all r : List Oper} {id : Nat} {k : List KI} {S0 S : St} {o : Oper} (z : AV) (hs : ∀ j, all[j]? = some o → StepOK P cx all S j o z) (h : DK P cx Q all id k S0 (r, S.put o.dst z)) :
    DK P cx Q all id k S0 (o :: r, S) := by
  intro zs G hr hl
  obtain ⟨h1, h2, h3⟩ := drop_cons hr
  exact h (zs ++ [z]) (.snoc z G h1 (hs _ h1)) (by simpa using h2) (by simpa using h3)

theorem DK.step (hτ : TabOK P τ) {all : List Oper} {id : Nat} {k : List KI} {S0 : St} : ∀ (r : List Oper) (j : Nat) (S : St), DK P cx Q all id k S0 (runD Ar.real τ cx.nt all j r S) → DK P cx Q all id k S0 (r, S)
  | [], j, S, h => h
  | o :: r, j, S, h => by
    unfold runD at h
    split at h
    · exact h
    · split at h
      · rename_i hd hg
        split at h
        · rename_i z hz
          refine DK.snoc z (fun j hj => ?_) (DK.step hτ r _ _ h)
          intro Q' K ι S1 a w H h1 h2 h3 hK
          unfold wpOp
          rw [show all.toArray[j]? = some o by simpa using hj]
          simp only
          rw [guardB_spec H (by rw [guardB_congr h3]; exact hg), if_pos rfl]
          refine .inl (stepOp_wp hτ H ?_ hK)
          unfold stepOp
          rw [pureOp_looks h1 h3, hz]
          cases hdst : o.dst with
          | none => rfl
          | some d =>
            rw [hdst] at hd
            simp only at hd ⊢
            rw [hd]
        · exact h
      · rename_i hd hg
        refine DK.snoc _ (fun j hj => ?_) (DK.step hτ r _ _ h)
        intro Q' K ι S1 a w H h1 h2 h3 hK
        unfold wpOp
        rw [show all.toArray[j]? = some o by simpa using hj]
        simp only
        rw [guardB_spec H (by rw [guardB_congr h3]; exact hg), if_neg (by simp)]
        exact hK ι _ w (H.put (dst_lt hd) (.tup [] [] rfl (by simp)))
      · exact h

theorem DK.run {F : Fam} (hF : F = Fam.real) (hτ : TabOK P τ) {n : Nat} (hn : cx.nt = n) (j : Nat) {all r : List Oper} {id : Nat} {k : List KI} {S0 S : St}
    (h : DK P cx Q all id k S0 (runD (Ar.of F) τ n all j r S)) : DK P cx Q all id k S0 (r, S) := by
  subst hF
  subst hn
  exact DK.step hτ r j S h

/-- A call that changes nothing the caller has. -/
theorem DK.call0 {all r : List Oper} {id : Nat} {k : List KI} {S0 S : St} {o : Oper} {c : Call} {fo : Operand} {g : FuncId} {fi ca args : List AV} {Qc : AV → List (Nat × Blk) → Nat → Prop}
    (spec : ASpec P g args [] 0 Qc) (z : AV) (ho : o.op = .call c) (hc : c.callee = .value fo) (hg : guardB all S o = some true) (hd : ∀ d, o.dst = some d → d < cx.nt)
    (hf : fargs (evl S fo) = some (g, fi, ca)) (hargs : app3 fi (evls S c.args.toList) ca = rens _root_.id args) (hlt : lts 0 args = true)
    (hz : ∀ x h' fr', Qc x h' fr' → x.ren (shift _root_.id 0 S.fr) = z ∧ h' = [] ∧ fr' = 0)
    (next : DK P cx Q all id k S0 (r, S.put o.dst z)) :
    DK P cx Q all id k S0 (o :: r, S) := by
  refine DK.snoc z (fun j hj => ?_) next
  intro Q' K ι S1 a w H h1 h2 h3 hK
  unfold wpOp
  rw [show all.toArray[j]? = some o by simpa using hj]
  simp only
  rw [guardB_spec H (by rw [guardB_congr h3]; exact hg), if_pos rfl]
  have ev : ∀ x, x ∈ o.op.operands.toList → evl S1 x = evl S x := fun x hx => evl_congr fun t ht => h3 t (by
    subst ht
    simp only [looksT, Oper.looksAt, List.mem_append]
    exact .inl (List.mem_filterMap.2 ⟨.tmp t, hx, rfl⟩))
  rw [ho] at ev
  refine .inl (call_wp H spec _root_.id ho hc hd (fi := fi) (ca := ca) ?_ ?_ hlt (fun n hn => absurd hn (by omega)) (fun n B h => by simp [look] at h) (fun n m h => absurd h (by omega)) fun x h' fr' hQ ι' a' w' H' => ?_)
  · rw [ev fo (by simp [Op.operands, Call.operands, hc])]
    exact hf
  · rw [evls_congr (S' := S) fun x hx => ev x (by simp [Op.operands, Call.operands, Array.mem_toList_iff.1 hx])]
    exact hargs
  · obtain ⟨rfl, rfl, rfl⟩ := hz x h' fr' hQ
    rw [h2] at H'
    exact hK ι' a' w' (by
      have e : St.after S1 _root_.id 0 [] 0 = S1 := rfl
      rw [← e]; exact H')

end
end Go.Ua

/- Memory that is not written again: told by what it holds. A library of this claim's own: no statement stands in it. -/
namespace Go.Ua
open Go Go.Proofs
set_option linter.unusedVariables false
set_option linter.unusedSimpArgs false

theorem lts_of {m : Nat} : ∀ {l : List AV}, (∀ (i : Nat) (c : AV), l[i]? = some c → c.lt m = true) → lts m l = true
  | [], _ => rfl
  | x :: l, h => by
    simp only [lts]
    rw [h 0 x rfl]
    exact lts_of fun i c hc => h (i + 1) c (by simpa using hc)

theorem get_of_len {α β : Type} {l : List α} {r : List β} (h : l.length = r.length) {i : Nat} {x : α} (hx : l[i]? = some x) : ∃ y, r[i]? = some y := by
  have := (List.getElem?_eq_some_iff.1 hx).1
  exact ⟨r[i], List.getElem?_eq_getElem (by omega)⟩

theorem blt_of {a b : Nat} (h : a < b) : Nat.blt a b = true := by
  simp only [Nat.blt, Nat.ble_eq]; exact h

section
variable {X L : Nat → Prop} {w0 : W0} {w w' : World} {nt : Nat} {ι : Io} {S : St} {a : Act} {P : Program} {τ : Tab} {R : Rd}

theorem RepV.lt_of {fr : Nat} (hf : ∀ n, fr ≤ n → ι n = none) {x : AV} {v : Value} (h : RepV R ι x v) : x.lt fr = true := by
  have key : ∀ {n : Nat} {p : Loc}, ι n = some p → Nat.blt n fr = true := by
    intro n p hp
    rcases Nat.lt_or_ge n fr with h1 | h1
    · exact blt_of h1
    · rw [hf n h1] at hp; cases hp
  induction h with
  | d => rfl
  | agg cs vs hl h1 h ih =>
    exact lts_of fun i c hc => by obtain ⟨v, hv⟩ := get_of_len hl hc; exact ih i c v hc hv
  | tup cs vs hl h ih =>
    exact lts_of fun i c hc => by obtain ⟨v, hv⟩ := get_of_len hl hc; exact ih i c v hc hv
  | ptr n i off k b c l h => exact key h
  | row n k b cap len h => exact key h
  | row0 n k a h => exact key h
  | own n i len k b cap m l c h hl hm hc => exact key h
  | iface t x v h ih => exact ih
  | fn f cs ds vs ws hl hl2 h h2 ih ih2 =>
    have h3 : lts fr cs = true := lts_of fun i c hc => by obtain ⟨v, hv⟩ := get_of_len hl hc; exact ih i c v hc hv
    have h4 : lts fr ds = true := lts_of fun i c hc => by obtain ⟨v, hv⟩ := get_of_len hl2 hc; exact ih2 i c v hc hv
    simp only [AV.lt, h3, h4]
  | nul => rfl
  | any => rfl

theorem RepB.lt_of {fr : Nat} (hf : ∀ n, fr ≤ n → ι n = none) {n : Nat} {B : Blk} (h : RepB R ι w n B) : n < fr ∧ B.lt fr = true := by
  have key : ∀ {n : Nat} {p : Loc}, ι n = some p → n < fr := by
    intro n p hp
    rcases Nat.lt_or_ge n fr with h1 | h1
    · exact h1
    · rw [hf n h1] at hp; cases hp
  cases h with
  | cs T cells b cap l cur hi hb hl h1 h =>
    exact ⟨key hi, lts_of fun i c hc => by obtain ⟨v, hv⟩ := get_of_len hl.symm hc; exact (h i c v hc hv).lt_of hf⟩
  | ds0 E k hi hk0 => exact ⟨key hi, rfl⟩
  | ds E k es b cap cur hi hb hl hc hm hk0 hk h1 h => exact ⟨key hi, rfl⟩

theorem bad_del {n b : Nat} {h : List (Nat × Blk)} (hb : bad L ι (del n h) b) : bad L ι h b := by
  rcases hb with h1 | ⟨m, c, l, h1, h2⟩
  · exact .inl h1
  · refine .inr ⟨m, c, l, ?_, h2⟩
    rw [look_del] at h1
    split at h1
    · cases h1
    · exact h1

/-- A block goes out of sight: it is read only from now on. -/
theorem HRel.forget {h : List (Nat × Blk)} {fr : Nat} (H : HRel X L w0 ι h fr w) (n : Nat) :
    HRel X L w0 ι (del n h) fr w ∧ ∀ b o v, rdOf L ι h w b o v → rdOf L ι (del n h) w b o v := by
  have hR : ∀ b o v, rdOf L ι h w b o v → rdOf L ι (del n h) w b o v := fun b o v ⟨h1, h2⟩ => ⟨fun h3 => h1 (bad_del h3), h2⟩
  have sub : ∀ {m : Nat} {B : Blk}, look m (del n h) = some B → look m h = some B := by
    intro m B hm
    rw [look_del] at hm
    split at hm
    · cases hm
    · exact hm
  have sub' : ∀ {m : Nat}, (look m (del n h)).isSome = true → (look m h).isSome = true := by
    intro m hm
    obtain ⟨B, hB⟩ := Option.isSome_iff_exists.1 hm
    rw [sub hB]; rfl
  exact ⟨⟨fun m B hm => (H.hp m B (sub hm)).mono hR (fun _ _ h => h) (fun _ _ _ _ => rfl), fun n m b c l c' l' h1 h2 => H.inj n m b c l c' l' (sub' h1) (sub' h2), fun n b c l h1 => H.out n b c l (sub' h1),
    H.fresh, H.lb, H.kp, H.old⟩, hR⟩

theorem Rel.forget (H : Rel X L w0 nt ι S a w) (n : Nat) : Rel X L w0 nt ι ⟨S.t, del n S.h, S.fr⟩ a w :=
  ⟨(H.hr.forget n).1, fun t x ht => (H.tm t x ht).mono (H.hr.forget n).2 (fun _ _ h => h), H.sz, H.df⟩

/-- What such a slice holds. -/
theorem HRel.view {h : List (Nat × Blk)} {fr : Nat} (H : HRel X L w0 ι h fr w) {n k k' : Nat} {E : TypeId} {es : List Dat} (hb : look n h = some (.ds E k es)) {v : Value} {R : Rd} (hv : RepV R ι (.row n k') v) :
    RepD (rdOf L ι (del n h) w) (.view k es) v := by
  have hB := H.hp n _ hb
  cases hv with
  | row _ _ b cap len hi =>
    cases hB with
    | ds0 _ _ hi' => rw [hi] at hi'; cases hi'
    | ds _ _ _ b' cap' cur hi' hbk hl hc hm hk0 hk h1 h2 =>
      obtain ⟨fz, hbk, _⟩ := hbk
      rw [hi] at hi'
      cases hi'
      have hcell : ∀ (i : Nat) (e : Dat) (j : Nat) (c : Dat), es[i]? = some e → e.cells[j]? = some c → ∃ u, cur[i * k + j]? = some u ∧ i * k + j < es.length * k := by
        intro i e j c he hc'
        have hil := (List.getElem?_eq_some_iff.1 he).1
        have hjl := (List.getElem?_eq_some_iff.1 hc').1
        rw [hk i e he] at hjl
        have h3 : (i + 1) * k ≤ es.length * k := Nat.mul_le_mul_right k hil
        rw [Nat.add_mul, Nat.one_mul] at h3
        have h4 : es.length * k ≤ cap * k := Nat.mul_le_mul_right k hc
        exact ⟨cur[i * k + j], List.getElem?_eq_getElem (by omega), by omega⟩
      refine RepD.view k es ⟨b, 0, none⟩ cap (fun i j => (cur[i * k + j]?).getD undef) hc hm (fun _ => rfl) hk ?_ ?_
      · intro i e j c he hc'
        obtain ⟨u, hu, hlt⟩ := hcell i e j c he hc'
        refine ⟨?_, ?_, ?_⟩
        · rintro (h3 | ⟨m, c', l', h3, h4⟩)
          · exact (H.out n b cap es.length (by rw [hb]; rfl) hi).1 h3
          · have hmn : m ≠ n := by
              intro e
              subst e
              rw [look_del] at h3
              simp at h3
            have h3' : (look m h).isSome = true := by
              rw [look_del, if_neg hmn] at h3
              exact h3
            exact hmn (H.inj m n b c' l' cap es.length h3' (by rw [hb]; rfl) h4 hi)
        · show w.cell? ⟨b, 0 + i * k + j, none⟩ = _
          rw [cell_of_row w b _ _ _ _ hbk]
          simp [hu]
        · simp only [hu, Option.getD_some]
          refine h1 u (List.mem_iff_getElem?.2 ⟨i * k + j, ?_⟩)
          rw [List.getElem?_take, if_pos hlt]
          exact hu
      · intro i e j c he hc'
        obtain ⟨u, hu, _⟩ := hcell i e j c he hc'
        simp only [hu, Option.getD_some]
        exact (h2 i e j c u he hc' hu).mono (H.forget n).2
  | row0 _ _ ad hi =>
    cases hB with
    | ds0 _ _ hi' =>
      cases ad with
      | none => exact .nil k
      | some ad => exact .view k [] ad 0 (fun _ _ => undef) (by simp) (Nat.zero_le _) (by simp) (by simp) (by simp) (by simp)
    | ds _ _ _ b' cap' cur hi' hbk hl hc hm hk0 hk h1 h2 => rw [hi] at hi'; cases hi'

/-- Newest names that nobody has are given back. -/
theorem Rel.unname (H : Rel X L w0 nt ι S a w) {t : List (Nat × AV)} {h : List (Nat × Blk)} {fr : Nat} (ht : ∀ i x, look i t = some x → look i S.t = some x ∧ x.lt fr = true)
    (hh : ∀ n B, look n h = some B → look n S.h = some B ∧ n < fr ∧ B.lt fr = true) (h0 : w0.fr ≤ fr) : ∃ ι', Rel X L w0 nt ι' ⟨t, h, fr⟩ a w := by
  refine H.le (r := id) (fun n hn => ⟨Nat.lt_of_lt_of_le hn h0, rfl⟩) ⟨fun i x hx => ⟨(ht i x hx).2, .inl ?_⟩, fun n B hn => ?_, fun n m _ _ h => h⟩
  · rw [ren_id]; exact (ht i x hx).1
  · rw [bren_id]
    obtain ⟨h1, h2, h3⟩ := hh n B hn
    exact ⟨h2, h3, h1⟩

/-! ### A row, a variable told by what it holds -/

mutual
def frz (g : AV → AV) : AV → AV
  | .agg cs => mkAgg (frzs g cs)
  | .tup cs => .tup (frzs g cs)
  | .row m k => g (.row m k)
  | .ptr m i o k => g (.ptr m i o k)
  | .iface t x => (match frz g x with
    | .d y => .d (.iface t y)
    | y => .iface t y)
  | .fn f a b => .fn f (frzs g a) (frzs g b)
  | x => x
def frzs (g : AV → AV) : List AV → List AV
  | [] => []
  | x :: l => frz g x :: frzs g l
end

theorem frzs_get (g : AV → AV) : ∀ (l : List AV) (i : Nat), (frzs g l)[i]? = (l[i]?).map (frz g)
  | [], i => by simp [frzs]
  | x :: l, 0 => by simp [frzs]
  | x :: l, i + 1 => by simpa [frzs] using frzs_get g l i
theorem frzs_length (g : AV → AV) : ∀ (l : List AV), (frzs g l).length = l.length
  | [] => rfl
  | x :: l => by simp [frzs, frzs_length g l]

theorem frz_rep {R R' : Rd} {g : AV → AV} (hR : ∀ b o v, R b o v → R' b o v) (hg : ∀ x v, RepV R ι x v → RepV R' ι (g x) v) {x : AV} {v : Value} (h : RepV R ι x v) : RepV R' ι (frz g x) v := by
  have lst : ∀ {cs : List AV} {vs : List Value}, (∀ (i : Nat) (c : AV) (v : Value), cs[i]? = some c → vs[i]? = some v → RepV R' ι (frz g c) v) →
      ∀ (i : Nat) (c : AV) (v : Value), (frzs g cs)[i]? = some c → vs[i]? = some v → RepV R' ι c v := by
    intro cs vs ih i c v hc hv
    rw [frzs_get, Option.map_eq_some_iff] at hc
    obtain ⟨c0, hc0, rfl⟩ := hc
    exact ih i c0 v hc0 hv
  induction h with
  | d x v h => exact .d _ _ (h.mono hR)
  | agg cs vs hl h1 h ih =>
    simp only [frz]
    exact mkAgg_rep (by rw [frzs_length]; exact hl) h1 (lst ih)
  | tup cs vs hl h ih =>
    simp only [frz]
    exact .tup _ _ (by rw [frzs_length]; exact hl) (lst ih)
  | ptr n i off k b c l h => simp only [frz]; exact hg _ _ (.ptr _ _ _ _ _ _ _ h)
  | row n k b cap len h => simp only [frz]; exact hg _ _ (.row _ _ _ _ _ h)
  | row0 n k a h => simp only [frz]; exact hg _ _ (.row0 _ _ _ h)
  | own n i len k b cap m l c h hl hm hx hc => exact .own _ _ _ _ _ _ _ _ _ h hl hm hx hc
  | iface t x v h ih =>
    simp only [frz]
    split
    · rename_i y hy
      rw [hy] at ih
      cases ih with
      | d _ _ hd => exact .d _ _ (.iface t y v hd)
    · exact .iface t _ v ih
  | fn f cs ds vs ws hl hl2 h h2 ih ih2 =>
    simp only [frz]
    exact .fn _ _ _ _ _ (by rw [frzs_length]; exact hl) (by rw [frzs_length]; exact hl2) (lst ih) (lst ih2)
  | nul a => exact .nul a
  | any v => exact .any v

def frzT (g : AV → AV) : List (Nat × AV) → List (Nat × AV)
  | [] => []
  | (i, x) :: l => (i, frz g x) :: frzT g l

def frzB (g : AV → AV) : Blk → Blk
  | .cs T l => .cs T (frzs g l)
  | B => B

def frzH (n : Nat) (g : AV → AV) : List (Nat × Blk) → List (Nat × Blk)
  | [] => []
  | (i, B) :: l => (match Nat.beq i n with
    | true => frzH n g l
    | false => (i, frzB g B) :: frzH n g l)

theorem look_frzT (g : AV → AV) (i : Nat) : ∀ (t : List (Nat × AV)) (x : AV), look i (frzT g t) = some x → ∃ y, look i t = some y ∧ x = frz g y
  | [], x, h => by simp [frzT, look] at h
  | (j, y) :: t, x, h => by
    simp only [frzT, look_cons] at h
    rw [look_cons]
    split at h
    · rename_i e
      exact ⟨y, by rw [if_pos e], (Option.some.inj h).symm⟩
    · rename_i e
      obtain ⟨y', h1, h2⟩ := look_frzT g i t x h
      exact ⟨y', by rw [if_neg e]; exact h1, h2⟩

theorem look_frzH (n : Nat) (g : AV → AV) (i : Nat) : ∀ (h : List (Nat × Blk)) (B : Blk), look i (frzH n g h) = some B → i ≠ n ∧ ∃ B0, look i h = some B0 ∧ B = frzB g B0
  | [], x, h => by simp [frzH, look] at h
  | (j, y) :: t, x, h => by
    simp only [frzH] at h
    split at h
    · rename_i e
      obtain rfl := Nat.eq_of_beq_eq_true e
      obtain ⟨h1, B0, h2, h3⟩ := look_frzH j g i t x h
      exact ⟨h1, B0, by rw [look_cons, if_neg (fun e => h1 e.symm)]; exact h2, h3⟩
    · rename_i e
      rw [look_cons] at h
      split at h
      · rename_i e2
        have e3 : j = i := e2
        refine ⟨fun e4 => ?_, y, by rw [look_cons, if_pos e2], (Option.some.inj h).symm⟩
        rw [e3, e4] at e
        simp at e
      · rename_i e2
        obtain ⟨h1, B0, h2, h3⟩ := look_frzH n g i t x h
        exact ⟨h1, B0, by rw [look_cons, if_neg e2]; exact h2, h3⟩

/-- A block goes out of sight, and what pointed at it is told anew. -/
theorem Rel.frz (H : Rel X L w0 nt ι S a w) (n : Nat) (g : AV → AV) (hg : ∀ x v, RepV (rdOf L ι S.h w) ι x v → RepV (rdOf L ι (del n S.h) w) ι (g x) v) :
    Rel X L w0 nt ι ⟨frzT g S.t, frzH n g S.h, S.fr⟩ a w := by
  obtain ⟨h1, hR⟩ := H.hr.forget n
  have sub : ∀ {m : Nat} {B : Blk}, look m (frzH n g S.h) = some B → ∃ B0, look m (del n S.h) = some B0 ∧ B = frzB g B0 := by
    intro m B hm
    obtain ⟨h2, B0, h3, h4⟩ := look_frzH n g m _ _ hm
    exact ⟨B0, by rw [look_del, if_neg h2]; exact h3, h4⟩
  have sub' : ∀ {m : Nat}, (look m (frzH n g S.h)).isSome = true → (look m (del n S.h)).isSome = true := by
    intro m hm
    obtain ⟨B, hB⟩ := Option.isSome_iff_exists.1 hm
    obtain ⟨B0, h3, _⟩ := sub hB
    rw [h3]; rfl
  have hR2 : ∀ b o v, rdOf L ι (del n S.h) w b o v → rdOf L ι (frzH n g S.h) w b o v := by
    intro b o v ⟨h2, h3⟩
    refine ⟨?_, h3⟩
    rintro (h4 | ⟨m, c, l, h4, h5⟩)
    · exact h2 (.inl h4)
    · exact h2 (.inr ⟨m, c, l, sub' h4, h5⟩)
  have hz : ∀ x v, RepV (rdOf L ι S.h w) ι x v → RepV (rdOf L ι (frzH n g S.h) w) ι (g x) v := fun x v hv => (hg x v hv).mono hR2 (fun _ _ h => h)
  have hRR : ∀ b o v, rdOf L ι S.h w b o v → rdOf L ι (frzH n g S.h) w b o v := fun b o v h => hR2 b o v (hR b o v h)
  refine ⟨⟨fun m B hm => ?_, fun n m b c l c' l' h2 h3 => h1.inj n m b c l c' l' (sub' h2) (sub' h3), fun n b c l h2 => h1.out n b c l (sub' h2), h1.fresh, h1.lb, h1.kp, h1.old⟩, fun t x ht => ?_, H.sz, H.df⟩
  · obtain ⟨_, B0, h2, rfl⟩ := look_frzH n g m _ _ hm
    have hB := H.hr.hp m B0 h2
    cases hB with
    | cs T cells b cap l cur hi hbk hl h3 h4 =>
      refine .cs T _ b cap l cur hi hbk (by rw [frzs_length]; exact hl) h3 fun j c v hc hv => ?_
      rw [frzs_get, Option.map_eq_some_iff] at hc
      obtain ⟨c0, hc0, rfl⟩ := hc
      exact frz_rep hRR hz (h4 j c0 v hc0 hv)
    | ds0 E k hi hk0 => exact .ds0 E k hi hk0
    | ds E k es b cap cur hi hbk hl hc hcm hk0 hk h1 h => exact .ds E k es b cap cur hi hbk hl hc hcm hk0 hk h1 fun i e j c v h2 h3 h4 => (h i e j c v h2 h3 h4).mono hRR
  · obtain ⟨y, h2, rfl⟩ := look_frzT g t _ _ ht
    exact frz_rep hRR hz (H.tm t y h2)

def gRow (n : Nat) (z : Dat) : AV → AV
  | .row m k => (match Nat.beq m n with
    | true => .d z
    | false => .row m k)
  | x => x

def gBox (n : Nat) (cs : List Dat) : AV → AV
  | .ptr m i o k => (match Nat.beq m n with
    | true => .d (.vref (cs.drop (i * k + o)))
    | false => .ptr m i o k)
  | x => x

theorem Rel.freeze (H : Rel X L w0 nt ι S a w) {n k : Nat} {E : TypeId} {es : List Dat} (hb : look n S.h = some (.ds E k es)) :
    Rel X L w0 nt ι ⟨frzT (gRow n (.view k es)) S.t, frzH n (gRow n (.view k es)) S.h, S.fr⟩ a w := by
  refine H.frz n _ fun x v hv => ?_
  unfold gRow
  split
  · split
    · rename_i e
      obtain rfl := Nat.eq_of_beq_eq_true e
      exact .d _ _ (H.hr.view hb hv)
    · exact hv.mono (H.hr.forget n).2 (fun _ _ h => h)
  · exact hv.mono (H.hr.forget n).2 (fun _ _ h => h)

/-- What such a variable holds. -/
theorem HRel.box {h : List (Nat × Blk)} {fr : Nat} (H : HRel X L w0 ι h fr w) {n i o k : Nat} {T : TypeId} {cells : List AV} {cs : List Dat} (hb : look n h = some (.cs T cells)) (hc : unDs cells = some cs) {v : Value} {R : Rd}
    (hv : RepV R ι (.ptr n i o k) v) : RepD (rdOf L ι (del n h) w) (.vref (cs.drop (i * k + o))) v := by
  have hB := H.hp n _ hb
  have hcs := unDs_some hc
  cases hv with
  | ptr _ _ _ _ b c l hi =>
    cases hB with
    | cs _ _ b' cap' l' cur hi' hbk hl h1 h2 =>
      rw [hi] at hi'
      cases hi'
      have hlen : cur.length = cs.length := by rw [hl, hcs]; simp
      have hcell : ∀ (j : Nat) (c : Dat), (cs.drop (i * k + o))[j]? = some c → ∃ u, cur[i * k + o + j]? = some u ∧ cells[i * k + o + j]? = some (.d c) := by
        intro j c hj
        rw [List.getElem?_drop] at hj
        have := (List.getElem?_eq_some_iff.1 hj).1
        exact ⟨cur[i * k + o + j], List.getElem?_eq_getElem (by omega), by rw [hcs, List.getElem?_map, hj]; rfl⟩
      refine RepD.vref _ b (i * k + o) (fun j => (cur[i * k + o + j]?).getD undef) (fun j c hj => ?_) (fun j c hj => ?_)
      · obtain ⟨u, hu, _⟩ := hcell j c hj
        refine ⟨?_, ?_, ?_⟩
        · rintro (h3 | ⟨m, c', l', h3, h4⟩)
          · exact (H.out n b _ _ (by rw [hb]; rfl) hi).1 h3
          · have hmn : m ≠ n := by
              intro e
              subst e
              rw [look_del] at h3
              simp at h3
            have h3' : (look m h).isSome = true := by
              rw [look_del, if_neg hmn] at h3
              exact h3
            exact hmn (H.inj m n b _ _ _ _ h3' (by rw [hb]; rfl) h4 hi)
        · rw [cell_of_row w b _ _ _ _ hbk]
          simp [hu]
        · simp only [hu, Option.getD_some]
          exact h1 u (List.mem_iff_getElem?.2 ⟨_, hu⟩)
      · obtain ⟨u, hu, hcj⟩ := hcell j c hj
        simp only [hu, Option.getD_some]
        exact (rep_d (h2 _ _ u hcj hu)).mono (H.forget n).2

theorem Rel.freezeBox (H : Rel X L w0 nt ι S a w) {n : Nat} {T : TypeId} {cells : List AV} {cs : List Dat} (hb : look n S.h = some (.cs T cells)) (hc : unDs cells = some cs) :
    Rel X L w0 nt ι ⟨frzT (gBox n cs) S.t, frzH n (gBox n cs) S.h, S.fr⟩ a w := by
  refine H.frz n _ fun x v hv => ?_
  unfold gBox
  split
  · split
    · rename_i e
      obtain rfl := Nat.eq_of_beq_eq_true e
      exact .d _ _ (H.hr.box hb hc hv)
    · exact hv.mono (H.hr.forget n).2 (fun _ _ h => h)
  · exact hv.mono (H.hr.forget n).2 (fun _ _ h => h)

end

section
variable {P : Program} [Globs P] {τ : Tab} {cx : Cx P} {Q : Exit → Act → World → Prop}

/-- A row that is not written again is told by what it holds. -/
theorem AKp.freeze {kk : List KI} {S : St} (n : Nat) {k : Nat} {E : TypeId} {es : List Dat} (hb : look n S.h = some (.ds E k es)) (h : AKp P cx Q (kk, ⟨frzT (gRow n (.view k es)) S.t, frzH n (gRow n (.view k es)) S.h, S.fr⟩)) : AKp P cx Q (kk, S) :=
  fun ι a w H => h ι a w (H.freeze hb)

/-- A variable that is not written again is told by what it holds. -/
theorem AKp.freezeBox {kk : List KI} {S : St} (n : Nat) {T : TypeId} {cells : List AV} {cs : List Dat} (hb : look n S.h = some (.cs T cells)) (hc : unDs cells = some cs)
    (h : AKp P cx Q (kk, ⟨frzT (gBox n cs) S.t, frzH n (gBox n cs) S.h, S.fr⟩)) : AKp P cx Q (kk, S) :=
  fun ι a w H => h ι a w (H.freezeBox hb hc)

def bsView (τ : Tab) (t : TypeId) (len : Nat) (parts : List (Nat × AV)) : Option (Nat × TypeId × List Dat) := match buildSliceOp τ ⟨[], [], 0⟩ t len parts with
  | some (.row _ k, ⟨_, (_, .ds e _ es) :: _, _⟩) => some (k, e, es)
  | _ => none

theorem bsView_op {t : TypeId} {len k : Nat} {parts : List (Nat × AV)} {e : TypeId} {es : List Dat} (h : bsView τ t len parts = some (k, e, es)) (S : St) :
    buildSliceOp τ S t len parts = some (.row S.fr k, S.new (.ds e k es)) := by
  unfold bsView at h
  split at h
  · rename_i x1 k' x2 x3 e' k2 es' x4 x5 heq
    simp only [Option.some.injEq, Prod.mk.injEq] at h
    obtain ⟨rfl, rfl, rfl⟩ := h
    unfold buildSliceOp at heq ⊢
    split at heq
    · rename_i e hk
      split at heq
      · rename_i y hy
        split at heq
        · rename_i hz
          split at heq
          · rename_i hle
            split at heq
            · rename_i cells hcells
              split at heq
              · rename_i ds hds
                split at heq
                · rename_i es2 hes
                  simp only [St.new, Option.some.injEq, Prod.mk.injEq, AV.row.injEq, St.mk.injEq, List.cons.injEq, Blk.ds.injEq] at heq
                  obtain ⟨⟨rfl, rfl⟩, rfl, ⟨⟨rfl, rfl, rfl, rfl⟩, rfl⟩, rfl⟩ := heq
                  first
                  | rfl
                  | simp [hk, hy, hz, hle, hcells, hds, hes]
                · cases heq
              · simp at heq
            · cases heq
          · cases heq
        · cases heq
      · cases heq
    · cases heq
  · cases h

theorem DK.view (hτ : TabOK P τ) {all r : List Oper} {id : Nat} {k : List KI} {S0 S : St} {o : Oper} {t : TypeId} {n k' : Nat} {parts : Array (Nat × Operand)} {e : TypeId} {es : List Dat} (h0 : cx.w0.fr ≤ S.fr)
    (ho : o.op = .buildSlice t n parts) (hv : bsView τ t n (evps S parts.toList) = some (k', e, es)) (hg : guardB all S o = some true) (hd : ∀ d, o.dst = some d → d < cx.nt)
    (next : DK P cx Q all id k S0 (r, S.put o.dst (.d (.view k' es)))) :
    DK P cx Q all id k S0 (o :: r, S) := by
  refine DK.snoc (.d (.view k' es)) (fun j hj => ?_) next
  intro Q' K ι S1 a w H h1 h2 h3 hK
  unfold wpOp
  rw [show all.toArray[j]? = some o by simpa using hj]
  simp only
  rw [guardB_spec H (by rw [guardB_congr h3]; exact hg), if_pos rfl]
  have ev : ∀ x, x ∈ o.op.operands.toList → evl S1 x = evl S x := fun x hx => evl_congr fun t ht => h3 t (by
    subst ht
    simp only [looksT, Oper.looksAt, List.mem_append]
    exact .inl (List.mem_filterMap.2 ⟨.tmp t, hx, rfl⟩))
  rw [ho] at ev
  have hop : effOp Ar.real τ S1 o.op = some (.row S1.fr k', S1.new (.ds e k' es)) := by
    rw [ho]
    simp only [effOp]
    rw [evps_congr (S' := S) fun p hp => ev p.2 (by simp only [Op.operands, List.mem_map]; exact ⟨p, hp, rfl⟩)]
    exact bsView_op hv S1
  obtain ⟨v, w', ι', hrun, H', hrep⟩ := effOp_run hτ H hop
  have hb : look S1.fr (S1.new (.ds e k' es)).h = some (.ds e k' es) := by simp [St.new, look_cons]
  have hview := H'.hr.view hb hrep
  have H2 := (H'.forget S1.fr).put hd (.d _ _ hview)
  have hne : K (a.put o.dst v) w' → o.wp P a w K Q' := by
    intro hk
    unfold Oper.wp
    rcases hrun with hrun | ⟨hrun, rfl⟩
    · rw [hrun]; exact hk
    · rw [hrun]; exact hk
  refine .inl (hne ?_)
  have g1 : ∀ i x, look i (S1.put o.dst (.d (.view k' es))).t = some x → look i (St.put ⟨(S1.new (.ds e k' es)).t, del S1.fr (S1.new (.ds e k' es)).h, (S1.new (.ds e k' es)).fr⟩ o.dst (.d (.view k' es))).t = some x ∧ x.lt S1.fr = true := by
    intro i x hx
    refine ⟨?_, ?_⟩
    · rw [← hx]
      cases o.dst <;> rfl
    · cases hdst : o.dst with
      | none =>
        rw [hdst] at hx
        exact (H.tm i x hx).lt_of H.hr.fresh
      | some d =>
        rw [hdst] at hx
        simp only [St.put, look_cons, look_del] at hx
        split at hx
        · obtain rfl := Option.some.inj hx; rfl
        · split at hx
          · cases hx
          · exact (H.tm i x hx).lt_of H.hr.fresh
  have g2 : ∀ n B, look n S1.h = some B → look n (St.put ⟨(S1.new (.ds e k' es)).t, del S1.fr (S1.new (.ds e k' es)).h, (S1.new (.ds e k' es)).fr⟩ o.dst (.d (.view k' es))).h = some B ∧ n < S1.fr ∧ B.lt S1.fr = true := by
    intro n B hn
    obtain ⟨h4, h5⟩ := (H.hr.hp n B hn).lt_of H.hr.fresh
    refine ⟨?_, h4, h5⟩
    have e3 : (St.put ⟨(S1.new (.ds e k' es)).t, del S1.fr (S1.new (.ds e k' es)).h, (S1.new (.ds e k' es)).fr⟩ o.dst (.d (.view k' es))).h = del S1.fr (S1.new (.ds e k' es)).h := by cases o.dst <;> rfl
    rw [e3, look_del, if_neg (by omega)]
    simp only [St.new, look_cons]
    rw [if_neg (by omega)]
    exact hn
  obtain ⟨ι2, H3⟩ := H2.unname g1 g2 (by rw [h2]; exact h0)
  refine hK ι2 _ w' ?_
  have e2 : S1.put o.dst (.d (.view k' es)) = ⟨(S1.put o.dst (.d (.view k' es))).t, S1.h, S1.fr⟩ := by cases o.dst <;> rfl
  rw [e2]
  exact H3

def runV (A : Ar) (τ : Tab) (nt : Nat) (all : List Oper) : Nat → List Oper → St → List Oper × St
  | _, [], S => ([], S)
  | j, o :: r, S => (match chkTail all j (o :: r) with
    | true => (o :: r, S)
    | false => (match (match o.dst with
        | some d => Nat.blt d nt
        | none => true), guardB all S o with
      | true, some true => (match pureOp A τ S o.op with
        | some z => runV A τ nt all (j + 1) r (S.put o.dst z)
        | none => (match o.op with
          | .buildSlice t n parts => (match bsView τ t n (evps S parts.toList) with
            | some (k, _, es) => runV A τ nt all (j + 1) r (S.put o.dst (.d (.view k es)))
            | none => (o :: r, S))
          | _ => (o :: r, S)))
      | true, some false => runV A τ nt all (j + 1) r (S.put o.dst (.tup []))
      | _, _ => (o :: r, S)))

theorem put_fr (S : St) (d : Option Nat) (z : AV) : (S.put d z).fr = S.fr := by cases d <;> rfl

theorem DK.stepV (hτ : TabOK P τ) {all : List Oper} {id : Nat} {k : List KI} {S0 : St} : ∀ (r : List Oper) (j : Nat) (S : St), cx.w0.fr ≤ S.fr → DK P cx Q all id k S0 (runV Ar.real τ cx.nt all j r S) → DK P cx Q all id k S0 (r, S)
  | [], j, S, _, h => h
  | o :: r, j, S, h0, h => by
    unfold runV at h
    split at h
    · exact h
    · split at h
      · rename_i hd hg
        split at h
        · rename_i z hz
          refine DK.snoc z (fun j hj => ?_) (DK.stepV hτ r _ _ (by rw [put_fr]; exact h0) h)
          intro Q' K ι S1 a w H h1 h2 h3 hK
          unfold wpOp
          rw [show all.toArray[j]? = some o by simpa using hj]
          simp only
          rw [guardB_spec H (by rw [guardB_congr h3]; exact hg), if_pos rfl]
          refine .inl (stepOp_wp hτ H ?_ hK)
          unfold stepOp
          rw [pureOp_looks h1 h3, hz]
          cases hdst : o.dst with
          | none => rfl
          | some d =>
            rw [hdst] at hd
            simp only at hd ⊢
            rw [hd]
        · split at h
          · rename_i t n parts ho
            split at h
            · rename_i k' e es hv
              exact DK.view hτ h0 ho hv hg (dst_lt hd) (DK.stepV hτ r _ _ (by rw [put_fr]; exact h0) h)
            · exact h
          · exact h
      · rename_i hd hg
        refine DK.snoc _ (fun j hj => ?_) (DK.stepV hτ r _ _ (by rw [put_fr]; exact h0) h)
        intro Q' K ι S1 a w H h1 h2 h3 hK
        unfold wpOp
        rw [show all.toArray[j]? = some o by simpa using hj]
        simp only
        rw [guardB_spec H (by rw [guardB_congr h3]; exact hg), if_neg (by simp)]
        exact hK ι _ w (H.put (dst_lt hd) (.tup [] [] rfl (by simp)))
      · exact h

theorem DK.runV {F : Fam} (hF : F = Fam.real) (hτ : TabOK P τ) {n : Nat} (hn : cx.nt = n) (hfr : cx.w0.fr = 0) (j : Nat) {all r : List Oper} {id : Nat} {k : List KI} {S0 S : St}
    (h : DK P cx Q all id k S0 (runV (Ar.of F) τ n all j r S)) : DK P cx Q all id k S0 (r, S) := by
  subst hF
  subst hn
  exact DK.stepV hτ r j S (by omega) h

end
end Go.Ua

/- Values told with less, and ends with more than one result. A library of this claim's own: no statement stands in it. -/
namespace Go.Ua
open Go Go.Proofs
set_option linter.unusedVariables false
set_option linter.unusedSimpArgs false

mutual
/-- What is said of a value by the second is said by the first, too: a nil slice is an empty one. -/
inductive LeD : Dat → Dat → Prop
  | refl (x : Dat) : LeD x x
  | nil (k : Nat) : LeD (.s .sl0) (.view k [])
  | agg {cs ds : List Dat} : LesD cs ds → LeD (.agg cs) (.agg ds)
  | view {k : Nat} {cs ds : List Dat} : LesD cs ds → LeD (.view k cs) (.view k ds)
inductive LesD : List Dat → List Dat → Prop
  | nil : LesD [] []
  | cons {x y : Dat} {cs ds : List Dat} : LeD x y → LesD cs ds → LesD (x :: cs) (y :: ds)
end

theorem LesD.get : ∀ {cs ds : List Dat}, LesD cs ds → cs.length = ds.length ∧ ∀ (i : Nat) (y : Dat), ds[i]? = some y → ∃ x, cs[i]? = some x ∧ LeD x y
  | _, _, .nil => ⟨rfl, by simp⟩
  | _, _, .cons h t => by
    obtain ⟨h1, h2⟩ := t.get
    refine ⟨by simp [h1], fun i y hy => ?_⟩
    cases i with
    | zero => simp only [List.getElem?_cons_zero, Option.some.injEq] at hy; subst hy; exact ⟨_, rfl, h⟩
    | succ i => simpa using h2 i y (by simpa using hy)

theorem LeD.cells {x y : Dat} (h : LeD x y) : x.cells.length = y.cells.length ∧ ∀ (i : Nat) (d : Dat), y.cells[i]? = some d → ∃ c, x.cells[i]? = some c ∧ LeD c d := by
  cases h with
  | refl => exact ⟨rfl, fun i d hd => ⟨d, hd, .refl d⟩⟩
  | nil k => exact ⟨rfl, fun i d hd => by
      cases i with
      | zero => simp only [Dat.cells, List.getElem?_cons_zero, Option.some.injEq] at hd; subst hd; exact ⟨_, rfl, .nil k⟩
      | succ i => simp [Dat.cells] at hd⟩
  | agg h => exact h.get
  | view h => exact ⟨rfl, fun i d hd => by
      cases i with
      | zero => simp only [Dat.cells, List.getElem?_cons_zero, Option.some.injEq] at hd; subst hd; exact ⟨_, rfl, .view h⟩
      | succ i => simp [Dat.cells] at hd⟩

theorem LeD.rep {R : Rd} {x : Dat} {v : Value} (hr : RepD R x v) : ∀ {y : Dat}, LeD x y → RepD R y v := by
  induction hr with
  | s a ho =>
    intro y h
    cases h with
    | refl => exact .s a ho
    | nil k => exact .nil k
  | agg cs vs hl h1 hh ih =>
    intro y h
    cases h with
    | refl => exact .agg cs vs hl h1 hh
    | agg h =>
      obtain ⟨g1, g2⟩ := h.get
      refine .agg _ vs (by rw [← g1]; exact hl) h1 fun i d v hd hv => ?_
      obtain ⟨c, hc, hle⟩ := g2 i d hd
      exact ih i c v hc hv hle
  | nil k =>
    intro y h
    cases h with
    | refl => exact .nil k
    | view h => cases h; exact .nil k
  | view k es a cap f hc hm hsp hk hr hh ih =>
    intro y h
    cases h with
    | refl => exact .view k es a cap f hc hm hsp hk hr hh
    | @view _ _ ds h =>
      obtain ⟨g1, g2⟩ := h.get
      rw [g1]
      refine .view k _ a cap f (by rw [← g1]; exact hc) hm (fun hne => hsp fun e => hne ?_) (fun i e he => ?_) (fun i e j c he hcj => ?_) (fun i e j c he hcj => ?_)
      · subst e
        exact List.eq_nil_of_length_eq_zero (by simpa using g1.symm)
      · obtain ⟨e0, h0, hle⟩ := g2 i e he
        rw [← hle.cells.1]
        exact hk i e0 h0
      · obtain ⟨e0, h0, hle⟩ := g2 i e he
        obtain ⟨c0, h1, _⟩ := hle.cells.2 j c hcj
        exact hr i e0 j c0 h0 h1
      · obtain ⟨e0, h0, hle⟩ := g2 i e he
        obtain ⟨c0, h1, hle1⟩ := hle.cells.2 j c hcj
        exact ih i e0 j c0 h0 h1 hle1
  | iface t x v hh ih =>
    intro y h
    cases h with
    | refl => exact .iface t x v hh
  | vref cs b o f hr hh ih =>
    intro y h
    cases h with
    | refl => exact .vref cs b o f hr hh

section
variable {P : Program} [Globs P] {τ : Tab} {cx : Cx P} {Q : Exit → Act → World → Prop}

/-- A slot told with less. -/
theorem AKp.retell {kk : List KI} {S : St} (i : Nat) {x : Dat} (y : Dat) (hx : look i S.t = some (.d x)) (hle : LeD x y) (h : AKp P cx Q (kk, ⟨(i, .d y) :: del i S.t, S.h, S.fr⟩)) : AKp P cx Q (kk, S) := by
  intro ι a w H
  refine h ι a w ⟨H.hr, fun t z hz => ?_, H.sz, H.df⟩
  simp only [look_cons, look_del] at hz
  split at hz
  · rename_i e
    obtain rfl := Option.some.inj hz
    subst e
    have := H.tm _ _ hx
    cases this with
    | d _ _ hd => exact .d _ _ (LeD.rep hd hle)
  · split at hz
    · cases hz
    · exact H.tm t z hz

theorem AKp.doneX {fn : Func} {Qr : AV → List (Nat × Blk) → Nat → Prop} (hτ : TabOK P τ) {S : St} {l : List AV} {x : AV} (hres : resAV τ S fn.results.toList = some l) (hx : tupAV l = x) (hlt : x.lt 0 = true) (h0 : cx.w0.fr = 0)
    (hQ : Qr x [] 0) {k : List KI} : AKp P cx (fin P fn cx Qr) (.code .ret :: k, S) :=
  AK.ret fun ι a w H => (fin_of (cx := cx) hτ hres id (x := x) (h' := []) (fr' := 0) (by rw [ren_id]; exact hx) hlt (fun n hn => by omega) (fun n B h => by simp [look] at h) (fun n m h => by simp [look] at h) hQ ι a w H).1

/-- So many steps. -/
theorem AK.runN {F : Fam} (hF : F = Fam.real) (hτ : TabOK P τ) {n : Nat} (hn : cx.nt = n) (m : Nat) {k : List KI} {S : St} (h : AKp P cx Q (runC (Ar.of F) τ n m k S)) : AK P cx Q k S := by
  subst hF
  subst hn
  exact AK.step hτ _ k S h

end
end Go.Ua
