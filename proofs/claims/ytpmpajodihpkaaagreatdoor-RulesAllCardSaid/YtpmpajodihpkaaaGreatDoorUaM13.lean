/- The library of this claim and its walks, part 13, joined out of smaller texts. No statement stands in it. -/
import Derived.Test.YtpmpajodihpkaaaGreatDoorUaM12
import Derived.Orders
set_option linter.unusedSectionVars false
set_option linter.unusedSimpArgs false
set_option linter.unusedVariables false
namespace Go.Ua
open Go Go.Proofs
theorem evl_congr {S S' : St} {x : Operand} (h : ∀ t, x = .tmp t → look t S.t = look t S'.t) : evl S x = evl S' x := by
 cases x with
 | tmp t => simp only [evl, h t rfl]
 | const v => rfl
 | global g => rfl
 | func f => rfl
theorem loadAV_h {τ : Tab} {S S' : St} (h : S.h = S'.h) (t : TypeId) (p : AV) : loadAV τ S t p = loadAV τ S' t p := by
 cases S; cases S'; cases h; rfl
theorem rowIndexAV_h {A : Ar} {τ : Tab} {S S' : St} (h : S.h = S'.h) (t : TypeId) (n k : Nat) (p : AV) : rowIndexAV A τ S t n k p = rowIndexAV A τ S' t n k p := by
 cases S; cases S'; cases h; rfl
theorem rowSliceAV_h {A : Ar} {τ : Tab} {S S' : St} (h : S.h = S'.h) (t : TypeId) (n k : Nat) (x y z : Option AV) : rowSliceAV A τ S t n k x y z = rowSliceAV A τ S' t n k x y z := by
 cases S; cases S'; cases h; rfl
theorem rowLenAV_h {A : Ar} {τ : Tab} {S S' : St} (h : S.h = S'.h) (t : TypeId) (n k : Nat) : rowLenAV A τ S t n k = rowLenAV A τ S' t n k := by
 cases S; cases S'; cases h; rfl
theorem evls_congr {S S' : St} {l : List Operand} (h : ∀ x, x ∈ l → evl S x = evl S' x) : evls S l = evls S' l := by
 rw [evls_eq, evls_eq]
 exact List.map_congr_left h
theorem evps_congr {S S' : St} {l : List (Nat × Operand)} (h : ∀ p, p ∈ l → evl S p.2 = evl S' p.2) : evps S l = evps S' l := by
 rw [evps_eq, evps_eq]
 exact List.map_congr_left fun p hp => by rw [h p hp]
theorem omap_congr {S S' : St} {x : Option Operand} (h : ∀ y, x = some y → evl S y = evl S' y) : omap S x = omap S' x := by
 cases x with
 | none => rfl
 | some y => simp only [omap, h y rfl]
theorem pureOp_congr {A : Ar} {τ : Tab} {S S' : St} (hh : S.h = S'.h) (op : Op) (h : ∀ x, x ∈ op.operands.toList → evl S x = evl S' x) : pureOp A τ S op = pureOp A τ S' op := by
 cases op <;> simp only [Op.operands] at h <;> simp only [pureOp]
 case move x => rw [h x (by simp)]
 case assign x => rw [h x (by simp)]
 case pick c x y => rw [h c (by simp), h x (by simp), h y (by simp)]
 case load t p => rw [h p (by simp), loadAV_h hh]
 case nilCheck x => rw [h x (by simp)]
 case binOp op t x y u => rw [h x (by simp), h y (by simp)]
 case unOp op t x => rw [h x (by simp)]
 case convert s d x => rw [h x (by simp)]
 case makeInterface t x => rw [h x (by simp)]
 case makeFunc f xs ys => rw [evls_congr (l := xs.toList) (fun x hx => h x (by simp [Array.mem_toList_iff.1 hx])), evls_congr (l := ys.toList) (fun x hx => h x (by simp [Array.mem_toList_iff.1 hx]))]
 case slice t x lo hi mx =>
   rw [h x (by simp), omap_congr (x := lo) (fun y hy => h y (by simp [hy])), omap_congr (x := hi) (fun y hy => h y (by simp [hy])), omap_congr (x := mx) (fun y hy => h y (by simp [hy]))]
   split
   · rw [rowSliceAV_h hh]
   · rfl
 case fieldAddr t x f => rw [h x (by simp)]
 case field t x f => rw [h x (by simp)]
 case indexAddr t x i =>
   rw [h x (by simp), h i (by simp)]
   split
   · rw [rowIndexAV_h hh]
   · rfl
 case index t x i => rw [h x (by simp), h i (by simp)]
 case lookup t x i ok =>
   rw [h x (by simp), h i (by simp)]
   unfold lookupAV mapOf
   rw [hh]
 case extract x i => rw [h x (by simp)]
 case build t ps => rw [evps_congr (l := ps.toList) (fun p hp => h p.2 (by simp only [List.mem_map]; exact ⟨p, hp, rfl⟩))]
 case call c =>
   cases hc : c.callee with
   | builtin b =>
     rw [evls_congr (l := c.args.toList) (fun x hx => h x (by simp [Call.operands, Array.mem_toList_iff.1 hx]))]
     simp only
     split
     · rw [rowLenAV_h hh]
     · rfl
   | value f => rfl
   | invoke r m => rfl
section
variable {P : Program} [Globs P] {τ : Tab} {cx : Cx P} {Q : Exit → Act → World → Prop}
def looksT (all : List Oper) (o : Oper) : List Nat := o.looksAt all.toArray
theorem guardB_congr {all : List Oper} {S S' : St} {o : Oper} (h : ∀ t, t ∈ looksT all o → look t S.t = look t S'.t) : guardB all S o = guardB all S' o := by
 unfold guardB
 split
 · rfl
 · rename_i j want hg
   split
   · rename_i oj hj
     split
     · rename_i d hd
       rw [h d (by simp [looksT, Oper.looksAt, hg, hj, hd])]
     · rfl
   · rfl
theorem pureOp_looks {A : Ar} {all : List Oper} {S S' : St} {o : Oper} (hh : S.h = S'.h) (h : ∀ t, t ∈ looksT all o → look t S.t = look t S'.t) : pureOp A τ S o.op = pureOp A τ S' o.op := by
 refine pureOp_congr hh o.op fun x hx => evl_congr fun t ht => h t ?_
 subst ht
 simp only [looksT, Oper.looksAt, List.mem_append]
 exact .inl (List.mem_filterMap.2 ⟨.tmp t, hx, rfl⟩)
def StepOK (P : Program) [Globs P] (cx : Cx P) (all : List Oper) (S0 : St) (j : Nat) (o : Oper) (z : AV) : Prop :=
 ∀ (Q : Exit → Act → World → Prop) (K : Act → World → Prop) (ι : Io) (S : St) (a : Act) (w : World), Rel cx.X cx.L cx.w0 cx.nt ι S a w → S.h = S0.h → S.fr = S0.fr →
   (∀ t, t ∈ looksT all o → look t S.t = look t S0.t) → (∀ ι' a' w', Rel cx.X cx.L cx.w0 cx.nt ι' (S.put o.dst z) a' w' → K a' w') → wpOp P all.toArray Q j K a w
inductive Good (P : Program) [Globs P] (cx : Cx P) (all : List Oper) (S0 : St) : List AV → St → Prop where
 | nil : Good P cx all S0 [] S0
 | snoc {zs : List AV} {S : St} {o : Oper} (z : AV) : Good P cx all S0 zs S → all[zs.length]? = some o → StepOK P cx all S zs.length o z → Good P cx all S0 (zs ++ [z]) (S.put o.dst z)
theorem Good.h {all : List Oper} {S0 S : St} {zs : List AV} (G : Good P cx all S0 zs S) : S.h = S0.h ∧ S.fr = S0.fr := by
 induction G with
 | nil => exact ⟨rfl, rfl⟩
 | @snoc zs S o z _ _ _ ih =>
   have : (S.put o.dst z).h = S.h ∧ (S.put o.dst z).fr = S.fr := by cases o.dst <;> exact ⟨rfl, rfl⟩
   exact ⟨this.1.trans ih.1, this.2.trans ih.2⟩
theorem look_put_ne {S : St} {d : Option Nat} {z : AV} {t : Nat} (h : d ≠ some t) : look t (S.put d z).t = look t S.t := by
 cases d with
 | none => rfl
 | some d =>
   simp only [St.put, look_cons, look_del]
   rw [if_neg (fun e => h (by rw [e]))]
   rw [if_neg (fun e => h (by rw [e]))]
theorem look_put_eq {S : St} {z : AV} {d : Nat} : look d (S.put (some d) z).t = some z := by
 simp [St.put, look_cons]
theorem Good.look0 {all : List Oper} {S0 S : St} {zs : List AV} (G : Good P cx all S0 zs S) {t : Nat} (h : ∀ (i : Nat) (o : Oper), i < zs.length → all[i]? = some o → o.dst ≠ some t) : look t S.t = look t S0.t := by
 induction G with
 | nil => rfl
 | @snoc zs S o z _ ho _ ih =>
   rw [look_put_ne (h _ o (by simp) ho)]
   exact ih fun i o hi => h i o (by simp; omega)
theorem Good.look1 {all : List Oper} {S0 S : St} {zs : List AV} (G : Good P cx all S0 zs S) {t i : Nat} {o : Oper} {z : AV} (ho : all[i]? = some o) (hd : o.dst = some t) (hz : zs[i]? = some z)
   (hu : ∀ (j : Nat) (o' : Oper), j < zs.length → all[j]? = some o' → o'.dst = some t → j = i) : look t S.t = some z := by
 induction G with
 | nil => simp at hz
 | @snoc zs S o' z' _ ho' _ ih =>
   by_cases hi : i = zs.length
   · subst hi
     rw [ho] at ho'
     cases ho'
     rw [List.getElem?_append_right (Nat.le_refl _), Nat.sub_self] at hz
     simp only [List.getElem?_cons_zero, Option.some.injEq] at hz
     subst hz
     rw [hd]
     exact look_put_eq
   · have hlt : i < zs.length := by
       have := (List.getElem?_eq_some_iff.1 hz).1
       simp at this
       omega
     rw [look_put_ne (fun e => hi (hu _ o' (by simp) ho' e).symm)]
     rw [List.getElem?_append_left hlt] at hz
     exact ih hz fun j o'' hj => hu j o'' (by simp; omega)
theorem Good.get {all : List Oper} {S0 S : St} {zs : List AV} (G : Good P cx all S0 zs S) {j : Nat} (hj : j < zs.length) :
   ∃ o z Sj, all[j]? = some o ∧ zs[j]? = some z ∧ Good P cx all S0 (zs.take j) Sj ∧ StepOK P cx all Sj j o z := by
 induction G with
 | nil => simp at hj
 | @snoc zs S o z G ho hs ih =>
   by_cases hi : j = zs.length
   · subst hi
     exact ⟨o, z, S, ho, by simp, by simpa using G, hs⟩
   · have hlt : j < zs.length := by simp at hj; omega
     obtain ⟨o', z', Sj, h1, h2, h3, h4⟩ := ih hlt
     exact ⟨o', z', Sj, h1, by rw [List.getElem?_append_left hlt]; exact h2, by rw [List.take_append_of_le_length (by omega)]; exact h3, h4⟩
def memN (n : Nat) : List Nat → Bool
 | [] => false
 | m :: l => (match Nat.beq m n with
   | true => true
   | false => memN n l)
theorem memN_mem {n : Nat} : ∀ {l : List Nat}, memN n l = true → n ∈ l
 | [], h => by simp [memN] at h
 | m :: l, h => by
   simp only [memN] at h
   split at h
   · rename_i e
     rw [Nat.eq_of_beq_eq_true e]
     simp
   · exact List.mem_cons_of_mem _ (memN_mem h)
def edgesN : List Edge → List Nat
 | [] => []
 | e :: l => (match Region.binds .any e with
   | true => e.on :: edgesN l
   | false => edgesN l)
theorem edgesN_mem {n : Nat} : ∀ {l : List Edge}, n ∈ edgesN l ↔ ∃ e, e ∈ l ∧ Region.binds .any e = true ∧ e.on = n
 | [] => by simp [edgesN]
 | e :: l => by
   simp only [edgesN]
   split
   · rename_i hb
     rw [List.mem_cons, edgesN_mem (l := l)]
     constructor
     · rintro (rfl | ⟨e', h1, h2, h3⟩)
       · exact ⟨e, by simp, hb, rfl⟩
       · exact ⟨e', by simp [h1], h2, h3⟩
     · rintro ⟨e', h1, h2, h3⟩
       rcases List.mem_cons.1 h1 with rfl | h1
       · exact .inl h3.symm
       · exact .inr ⟨e', h1, h2, h3⟩
   · rename_i hb
     rw [edgesN_mem (l := l)]
     constructor
     · rintro ⟨e', h1, h2, h3⟩
       exact ⟨e', by simp [h1], h2, h3⟩
     · rintro ⟨e', h1, h2, h3⟩
       rcases List.mem_cons.1 h1 with rfl | h1
       · rw [h2] at hb; cases hb
       · exact ⟨e', h1, h2, h3⟩
def wrN (t : Nat) : Nat → List Oper → List Nat
 | _, [] => []
 | i, o :: r => (match o.dst with
   | some d => (match Nat.beq d t with
     | true => i :: wrN t (i + 1) r
     | false => wrN t (i + 1) r)
   | none => wrN t (i + 1) r)
theorem wrN_mem {t : Nat} : ∀ {l : List Oper} {i j : Nat} {o : Oper}, l[j]? = some o → o.dst = some t → i + j ∈ wrN t i l
 | [], i, j, o, h, _ => by simp at h
 | o' :: l, i, 0, o, h, hd => by
   simp only [List.getElem?_cons_zero, Option.some.injEq] at h
   subst h
   simp [wrN, hd]
 | o' :: l, i, j + 1, o, h, hd => by
   have := wrN_mem (i := i + 1) (by simpa using h) hd
   rw [show i + (j + 1) = i + 1 + j by omega]
   simp only [wrN]
   split
   · split
     · exact List.mem_cons_of_mem _ this
     · exact this
   · exact this
def chkFree (pre all : List Oper) : Nat → List Oper → Bool
 | _, [] => true
 | j, o :: r => (match (edgesN o.after.toList).all (fun i => Nat.blt i j), (looksT all o).all (fun t => (wrN t 0 pre).all (fun i => memN i (edgesN o.after.toList))), (match o.dst with
     | some d => (wrN d 0 pre).all (fun i => Nat.beq i j)
     | none => true) with
   | true, true, true => chkFree pre all (j + 1) r
   | _, _, _ => false)
def nextE (all : List Oper) : List Nat → List Nat
 | [] => []
 | i :: l => (match all[i]? with
   | some o => edgesN o.after.toList ++ nextE all l
   | none => nextE all l)
def reachN (all : List Oper) : Nat → List Nat → List Nat
 | 0, l => l
 | f + 1, l => l ++ reachN all f (nextE all l)
def chkTail (all : List Oper) : Nat → List Oper → Bool
 | _, [] => true
 | j, o :: r => (match (edgesN o.after.toList).all (fun i => Nat.blt i j), (List.range j).all (fun i => memN i (reachN all 6 (edgesN o.after.toList))) with
   | true, true => chkTail all (j + 1) r
   | _, _ => false)
theorem nextE_mem {all : List Oper} {n : Nat} : ∀ {l : List Nat}, n ∈ nextE all l → ∃ k o, k ∈ l ∧ all[k]? = some o ∧ n ∈ edgesN o.after.toList
 | [], h => by simp [nextE] at h
 | i :: l, h => by
   simp only [nextE] at h
   split at h
   · rename_i o ho
     rcases List.mem_append.1 h with h | h
     · exact ⟨i, o, by simp, ho, h⟩
     · obtain ⟨k, o', h1, h2, h3⟩ := nextE_mem h
       exact ⟨k, o', List.mem_cons_of_mem _ h1, h2, h3⟩
   · obtain ⟨k, o', h1, h2, h3⟩ := nextE_mem h
     exact ⟨k, o', List.mem_cons_of_mem _ h1, h2, h3⟩
theorem reachN_all {all : List Oper} {p : Nat → Prop} (hp : ∀ (k : Nat) (o : Oper) (n : Nat), p k → all[k]? = some o → n ∈ edgesN o.after.toList → p n) :
   ∀ (f : Nat) (l : List Nat), (∀ n, n ∈ l → p n) → ∀ n, n ∈ reachN all f l → p n
 | 0, l, h, n, hn => h n hn
 | f + 1, l, h, n, hn => by
   simp only [reachN] at hn
   rcases List.mem_append.1 hn with hn | hn
   · exact h n hn
   · refine reachN_all hp f _ (fun m hm => ?_) n hn
     obtain ⟨k, o, h1, h2, h3⟩ := nextE_mem hm
     exact hp k o m (h k h1) h2 h3
def chkAny (m : Nat) (all : List Oper) : Bool := match chkFree (all.take m) all 0 (all.take m), chkTail all m (all.drop m) with
 | true, true => true
 | _, _ => false
theorem chkFree_get {pre all : List Oper} : ∀ {l : List Oper} {i j : Nat} {o : Oper}, chkFree pre all i l = true → l[j]? = some o →
   (∀ n, n ∈ edgesN o.after.toList → n < i + j) ∧ (∀ t, t ∈ looksT all o → ∀ n, n ∈ wrN t 0 pre → n ∈ edgesN o.after.toList) ∧ (∀ d, o.dst = some d → ∀ n, n ∈ wrN d 0 pre → n = i + j)
 | [], i, j, o, _, h => by simp at h
 | o' :: l, i, j, o, hc, h => by
   simp only [chkFree] at hc
   split at hc
   · rename_i h1 h2 h3
     cases j with
     | zero =>
       simp only [List.getElem?_cons_zero, Option.some.injEq] at h
       subst h
       refine ⟨fun n hn => blt_lt (List.all_eq_true.1 h1 n hn), fun t ht n hn => memN_mem (List.all_eq_true.1 (List.all_eq_true.1 h2 t ht) n hn), fun d hd n hn => ?_⟩
       rw [hd] at h3
       exact Nat.eq_of_beq_eq_true (List.all_eq_true.1 h3 n hn)
     | succ j =>
       have := chkFree_get (j := j) hc (by simpa using h)
       rw [show i + (j + 1) = i + 1 + j by omega]
       exact this
   · cases hc
theorem chkTail_get {all : List Oper} : ∀ {l : List Oper} {i j : Nat} {o : Oper}, chkTail all i l = true → l[j]? = some o →
   (∀ n, n ∈ edgesN o.after.toList → n < i + j) ∧ (∀ n, n < i + j → n ∈ reachN all 6 (edgesN o.after.toList))
 | [], i, j, o, _, h => by simp at h
 | o' :: l, i, j, o, hc, h => by
   simp only [chkTail] at hc
   split at hc
   · rename_i h1 h2
     cases j with
     | zero =>
       simp only [List.getElem?_cons_zero, Option.some.injEq] at h
       subst h
       exact ⟨fun n hn => blt_lt (List.all_eq_true.1 h1 n hn), fun n hn => memN_mem (List.all_eq_true.1 h2 n (List.mem_range.2 hn))⟩
     | succ j =>
       have := chkTail_get (j := j) hc (by simpa using h)
       rw [show i + (j + 1) = i + 1 + j by omega]
       exact this
   · cases hc
theorem count_set : ∀ (l : List Bool) (i : Nat), l[i]? = some false → ((l.set i true).filter (!·)).length + 1 = (l.filter (!·)).length
 | [], i, h => by simp at h
 | b :: l, 0, h => by
   simp only [List.getElem?_cons_zero, Option.some.injEq] at h
   subst h
   simp
 | b :: l, i + 1, h => by
   have := count_set l i (by simpa using h)
   cases b <;> simp [this] <;> omega
theorem ready_iff {all : List Oper} {listed : Array Bool} {j : Nat} : j ∈ Region.ready .any all.toArray listed ↔
   listed.getD j true = false ∧ ∃ o, all[j]? = some o ∧ ∀ n, n ∈ edgesN o.after.toList → listed.getD n false = true := by
 rw [mem_ready]
 constructor
 · rintro ⟨h1, o, h2, h3⟩
   refine ⟨h1, o, by simpa using h2, fun n hn => ?_⟩
   obtain ⟨e, he, hb, rfl⟩ := edgesN_mem.1 hn
   exact h3 e (Array.mem_toList_iff.1 he) hb
 · rintro ⟨h1, o, h2, h3⟩
   exact ⟨h1, o, by simpa using h2, fun e he hb => h3 _ (edgesN_mem.2 ⟨e, Array.mem_toList_iff.2 he, hb, rfl⟩)⟩
theorem getD_tf {listed : Array Bool} {j : Nat} : listed.getD j true = false ↔ listed[j]? = some false := by
 rw [Array.getD_eq_getD_getElem?]
 cases h : listed[j]? with
 | none => simp
 | some b => simp
theorem getD_ft {listed : Array Bool} {j : Nat} : listed.getD j false = true ↔ listed[j]? = some true := by
 rw [Array.getD_eq_getD_getElem?]
 cases h : listed[j]? with
 | none => simp
 | some b => simp
theorem any_tail {all : List Oper} (E : ∀ (k : Nat) (o : Oper) (n : Nat), all[k]? = some o → n ∈ edgesN o.after.toList → n < k) : ∀ (r : List Oper) (m fuel : Nat) (listed : Array Bool) (a : Act) (w : World), r = all.drop m → chkTail all m r = true → listed.size = all.length →
   (∀ j, listed.getD j false = true ↔ j < m ∧ j < all.length) → r.length ≤ fuel → wpList P all.toArray Q r a w → wpAny P .any all.toArray Q fuel listed a w
 | [], m, fuel, listed, a, w, hr, hc, hs, hl, hf, H => by
   have hm : all.length ≤ m := by
     have := congrArg List.length hr
     simp at this
     omega
   refine wpAny_done (List.eq_nil_iff_forall_not_mem.2 fun j hj => ?_) H fuel
   obtain ⟨h1, o, h2, _⟩ := ready_iff.1 hj
   have hlt := (List.getElem?_eq_some_iff.1 h2).1
   have := (hl j).2 ⟨by omega, hlt⟩
   rw [getD_tf] at h1
   rw [getD_ft, h1] at this
   cases this
 | o :: r, m, fuel, listed, a, w, hr, hc, hs, hl, hf, H => by
   have ho : all[m]? = some o := by
     have := congrArg (·[0]?) hr
     simpa using this.symm
   have hmn := (List.getElem?_eq_some_iff.1 ho).1
   have hr' : r = all.drop (m + 1) := by
     have := congrArg List.tail hr
     simpa using this
   have hun : listed[m]? = some false := by
     have : listed[m]? = some listed[m] := Array.getElem?_eq_getElem (by omega)
     cases hb : listed[m] with
     | false => rw [this, hb]
     | true =>
       rw [hb] at this
       have := (hl m).1 (getD_ft.2 this)
       omega
   cases fuel with
   | zero => simp at hf
   | succ fuel =>
     have hme := chkTail_get (j := 0) hc rfl
     refine ⟨fun h => ?_, fun i hi => ?_⟩
     · have : m ∈ Region.ready .any all.toArray listed := ready_iff.2 ⟨getD_tf.2 hun, o, ho, fun n hn => (hl n).2 ⟨hme.1 n hn, by have := hme.1 n hn; omega⟩⟩
       rw [h] at this
       cases this
     · obtain ⟨h1, oi, h2, h3⟩ := ready_iff.1 hi
       have hin := (List.getElem?_eq_some_iff.1 h2).1
       have him : i = m := by
         rcases Nat.lt_trichotomy i m with h4 | h4 | h4
         · have := (hl i).2 ⟨h4, hin⟩
           rw [getD_ft] at this
           rw [getD_tf, this] at h1
           cases h1
         · exact h4
         · have hg : (o :: r)[i - m]? = some oi := by
             rw [hr, List.getElem?_drop, show m + (i - m) = i by omega]
             exact h2
           have hreach := (chkTail_get hc hg).2 m (by omega)
           have := reachN_all (p := fun n => n < m) (fun k ok n hk hok hn => by have := E k ok n hok hn; omega) 6 (edgesN oi.after.toList) (fun n hn => ((hl n).1 (h3 n hn)).1) m hreach
           omega
       subst him
       have hstep : wpOp P all.toArray Q i (wpList P all.toArray Q r) a w := by
         unfold wpOp
         have : all.toArray[i]? = some o := by simpa using ho
         rw [this]
         exact H
       refine wpOp_mono (fun a' w' h' => ?_) hstep
       have hc' : chkTail all (i + 1) r = true := by
         simp only [chkTail] at hc
         split at hc
         · exact hc
         · cases hc
       refine any_tail E r (i + 1) fuel _ a' w' hr' hc' (by simp [hs]) (fun j => ?_) (by simpa using hf) h'
       rw [getD_ft, Array.getElem?_setIfInBounds]
       by_cases hij : i = j
       · subst hij
         simp [hs, hmn]
       · rw [if_neg hij, ← getD_ft, hl j]
         omega
theorem Rel.drew {X L : Nat → Prop} {w0 : W0} {nt : Nat} {ι : Io} {S : St} {a : Act} {w : World} (H : Rel X L w0 nt ι S a w) : Rel X L w0 nt ι S a { w with drawn := w.drawn + 1 } := by
 have hR : ∀ b o v, rdOf L ι S.h w b o v → rdOf L ι S.h { w with drawn := w.drawn + 1 } b o v := fun b o v h => h
 exact ⟨⟨fun n b hb => RepB.mono (w := w) (w' := { w with drawn := w.drawn + 1 }) hR (fun _ _ h => h) (fun _ _ _ _ => rfl) (H.hr.hp n b hb), H.hr.inj, H.hr.out, H.hr.fresh, H.hr.lb, ⟨H.hr.kp.os, H.hr.kp.tape, H.hr.kp.output, H.hr.kp.size, H.hr.kp.block⟩, H.hr.old⟩,
   fun t x ht => (H.tm t x ht).mono hR (fun _ _ h => h), H.sz, H.df⟩
structure Inv (all : List Oper) (S0 : St) (zs : List AV) (listed : Array Bool) (S : St) : Prop where
 h : S.h = S0.h
 fr : S.fr = S0.fr
 on : ∀ (i : Nat) (o : Oper) (z : AV) (t : Nat), i < zs.length → listed[i]? = some true → all[i]? = some o → o.dst = some t → zs[i]? = some z → look t S.t = some z
 off : ∀ t, (∀ (i : Nat) (o : Oper), i < zs.length → listed[i]? = some true → all[i]? = some o → o.dst ≠ some t) → look t S.t = look t S0.t
theorem any_free {all : List Oper} {S0 S : St} {zs : List AV} (G : Good P cx all S0 zs S) (hm : zs.length ≤ all.length) (hc : chkAny zs.length all = true)
   (tail : ∀ ι a w, Rel cx.X cx.L cx.w0 cx.nt ι S a w → wpList P all.toArray Q (all.drop zs.length) a w) :
   ∀ (fuel : Nat) (listed : Array Bool) (S1 : St) (ι : Io) (a : Act) (w : World), listed.size = all.length → (listed.toList.filter (!·)).length ≤ fuel → (∀ j, zs.length ≤ j → listed[j]? ≠ some true) → (∀ (k : Nat) (o : Oper) (n : Nat), listed[k]? = some true → all[k]? = some o → n ∈ edgesN o.after.toList → listed[n]? = some true) → Inv all S0 zs listed S1 →
     Rel cx.X cx.L cx.w0 cx.nt ι S1 a w → wpAny P .any all.toArray Q fuel listed a w := by
 obtain ⟨hcf, hct⟩ : chkFree (all.take zs.length) all 0 (all.take zs.length) = true ∧ chkTail all zs.length (all.drop zs.length) = true := by
   unfold chkAny at hc
   split at hc
   · exact ⟨by assumption, by assumption⟩
   · cases hc
 have pre : ∀ {j : Nat} {o : Oper}, j < zs.length → all[j]? = some o → (all.take zs.length)[j]? = some o := by
   intro j o hj ho
   rw [List.getElem?_take, if_pos hj]; exact ho
 have edg : ∀ {j : Nat} {o : Oper}, j < zs.length → all[j]? = some o → ∀ n, n ∈ edgesN o.after.toList → n < j := by
   intro j o hj ho n hn
   have := (chkFree_get hcf (pre hj ho)).1 n hn
   omega
 have E : ∀ (k : Nat) (o : Oper) (n : Nat), all[k]? = some o → n ∈ edgesN o.after.toList → n < k := by
   intro k o n hk hn
   rcases Nat.lt_or_ge k zs.length with h | h
   · exact edg h hk n hn
   · have hg : (all.drop zs.length)[k - zs.length]? = some o := by
       rw [List.getElem?_drop, show zs.length + (k - zs.length) = k by omega]; exact hk
     have := (chkTail_get hct hg).1 n hn
     omega
 have ops : ∀ {j i : Nat} {o oi : Oper} {t : Nat}, j < zs.length → all[j]? = some o → t ∈ looksT all o → i < zs.length → all[i]? = some oi → oi.dst = some t → i ∈ edgesN o.after.toList := by
   intro j i o oi t hj ho ht hi hoi hd
   have := (chkFree_get hcf (pre hj ho)).2.1 t ht (0 + i) (wrN_mem (pre hi hoi) hd)
   simpa using this
 have dis : ∀ {j i : Nat} {o oi : Oper} {t : Nat}, j < zs.length → all[j]? = some o → o.dst = some t → i < zs.length → all[i]? = some oi → oi.dst = some t → i = j := by
   intro j i o oi t hj ho ht hi hoi hd
   have := (chkFree_get hcf (pre hj ho)).2.2 t ht (0 + i) (wrN_mem (pre hi hoi) hd)
   omega
 have can : ∀ {j : Nat} {Sj : St}, j ≤ zs.length → Good P cx all S0 (zs.take j) Sj → ∀ {i : Nat} {oi : Oper} {z : AV} {t : Nat}, i < j → all[i]? = some oi → oi.dst = some t → zs[i]? = some z → look t Sj.t = some z := by
   intro j Sj hj Gj i oi z t hi hoi hd hz
   refine Gj.look1 hoi hd (by rw [List.getElem?_take, if_pos hi]; exact hz) fun j' o' h1 h2 h3 => ?_
   rw [List.length_take] at h1
   exact dis (by omega) hoi hd (by omega) h2 h3
 have wri : ∀ (t k : Nat), (∃ i oi, i < k ∧ all[i]? = some oi ∧ oi.dst = some t) ∨ ∀ (i : Nat) (oi : Oper), i < k → all[i]? = some oi → oi.dst ≠ some t := by
   intro t k
   by_cases h : ∃ i oi, i < k ∧ all[i]? = some oi ∧ oi.dst = some t
   · exact .inl h
   · exact .inr fun i oi h1 h2 h3 => h ⟨i, oi, h1, h2, h3⟩
 intro fuel
 induction fuel with
 | zero =>
   intro listed S1 ι a w hs hf hno hcl hI H
   have hall : ∀ j, j < all.length → listed[j]? = some true := by
     intro j hj
     have h1 : listed[j]? = some listed[j] := Array.getElem?_eq_getElem (by omega)
     cases hb : listed[j] with
     | true => rw [h1, hb]
     | false =>
       rw [hb] at h1
       have := count_set listed.toList j (by simpa using h1)
       omega
   refine any_tail E _ zs.length 0 listed a w rfl hct hs (fun j => ⟨fun h => ?_, fun h => getD_ft.2 (hall j h.2)⟩) ?_ (tail ι a w ⟨?_, fun t x ht => ?_, H.sz, H.df⟩)
   · rw [getD_ft] at h
     have hj : j < all.length := by have := (Array.getElem?_eq_some_iff.1 h).1; omega
     exact ⟨Nat.lt_of_not_le fun hle => hno j hle h, hj⟩
   · rw [List.length_drop]
     rcases Nat.lt_or_ge zs.length all.length with h | h
     · exact absurd (hall _ h) (hno _ (Nat.le_refl _))
     · omega
   · rw [G.h.1, G.h.2, ← hI.h, ← hI.fr]
     exact H.hr
   · rw [G.h.1, ← hI.h]
     refine H.tm t x ?_
     rcases wri t zs.length with ⟨i, oi, h1, h2, h3⟩ | h1
     · obtain ⟨z, hz⟩ : ∃ z, zs[i]? = some z := ⟨zs[i], List.getElem?_eq_getElem h1⟩
       rw [can (Nat.le_refl _) (by simpa using G) h1 h2 h3 hz] at ht
       rw [hI.on i oi z t h1 (hall i (by omega)) h2 h3 hz]
       exact ht
     · rw [G.look0 h1] at ht
       rw [hI.off t fun i o h2 _ h3 => h1 i o h2 h3]
       exact ht
 | succ fuel ih =>
   intro listed S1 ι a w hs hf hno hcl hI H
   by_cases hall : ∀ j, j < zs.length → listed[j]? = some true
   · have hg : ∀ j, listed.getD j false = true ↔ j < zs.length ∧ j < all.length := by
       intro j
       refine ⟨fun h => ?_, fun h => getD_ft.2 (hall j h.1)⟩
       rw [getD_ft] at h
       have hj : j < all.length := by have := (Array.getElem?_eq_some_iff.1 h).1; omega
       exact ⟨Nat.lt_of_not_le fun hle => hno j hle h, hj⟩
     refine any_tail E _ zs.length (fuel + 1) listed a w rfl hct hs hg ?_ (tail ι a w ⟨?_, fun t x ht => ?_, H.sz, H.df⟩)
     · refine Nat.le_trans ?_ hf
       have key : ∀ (l : List Bool) (m : Nat), (∀ j, m ≤ j → l[j]? ≠ some true) → l.length - m ≤ (l.filter (!·)).length := by
         intro l
         induction l with
         | nil => intro m _; simp
         | cons b l ihl =>
           intro m hm
           cases m with
           | zero =>
             have hb : b = false := by
               have := hm 0 (Nat.le_refl _)
               cases b
               · rfl
               · simp at this
             have := ihl 0 fun j _ => by have := hm (j + 1) (by omega); simpa using this
             subst hb
             simp at this ⊢
             omega
           | succ m =>
             have := ihl m fun j hj => by have := hm (j + 1) (by omega); simpa using this
             cases b <;> simp at this ⊢ <;> omega
       have := key listed.toList zs.length fun j hj => by have := hno j hj; simpa using this
       rw [List.length_drop]
       simp only [Array.length_toList, hs] at this
       exact this
     · rw [G.h.1, G.h.2, ← hI.h, ← hI.fr]
       exact H.hr
     · rw [G.h.1, ← hI.h]
       refine H.tm t x ?_
       rcases wri t zs.length with ⟨i, oi, h1, h2, h3⟩ | h1
       · obtain ⟨z, hz⟩ : ∃ z, zs[i]? = some z := ⟨zs[i], List.getElem?_eq_getElem h1⟩
         rw [can (Nat.le_refl _) (by simpa using G) h1 h2 h3 hz] at ht
         rw [hI.on i oi z t h1 (hall i h1) h2 h3 hz]
         exact ht
       · rw [G.look0 h1] at ht
         rw [hI.off t fun i o h2 _ h3 => h1 i o h2 h3]
         exact ht
   · refine ⟨fun h => ?_, fun i hi => ?_⟩
     ·
       exfalso
       have least : ∀ k, k ≤ zs.length → (∀ j, j < k → listed[j]? = some true) ∨ ∃ j, j < k ∧ listed[j]? = some false ∧ ∀ j', j' < j → listed[j']? = some true := by
         intro k
         induction k with
         | zero => intro _; exact .inl fun j hj => absurd hj (by omega)
         | succ k ihk =>
           intro hk
           rcases ihk (by omega) with h1 | ⟨j, h1, h2, h3⟩
           · have h2 : listed[k]? = some listed[k] := Array.getElem?_eq_getElem (by omega)
             cases hb : listed[k] with
             | true =>
               rw [hb] at h2
               refine .inl fun j hj => ?_
               rcases Nat.lt_or_ge j k with h3 | h3
               · exact h1 j h3
               · obtain rfl : j = k := by omega
                 exact h2
             | false =>
               rw [hb] at h2
               exact .inr ⟨k, by omega, h2, h1⟩
           · exact .inr ⟨j, by omega, h2, h3⟩
       rcases least zs.length (Nat.le_refl _) with h1 | ⟨j, h1, h2, h3⟩
       · exact hall h1
       · have hj : all[j]? = some all[j] := List.getElem?_eq_getElem (by omega)
         have : j ∈ Region.ready .any all.toArray listed := ready_iff.2 ⟨getD_tf.2 h2, _, hj, fun n hn => getD_ft.2 (h3 n (edg h1 hj n hn))⟩
         rw [h] at this
         cases this
     · obtain ⟨h1, oi, h2, h3⟩ := ready_iff.1 hi
       rw [getD_tf] at h1
       have hin := (List.getElem?_eq_some_iff.1 h2).1
       have him : i < zs.length := by
         rcases Nat.lt_or_ge i zs.length with h4 | h4
         · exact h4
         · exfalso
           refine hall fun j hj => ?_
           have hg : (all.drop zs.length)[i - zs.length]? = some oi := by
             rw [List.getElem?_drop, show zs.length + (i - zs.length) = i by omega]; exact h2
           exact reachN_all (p := fun n => listed[n]? = some true) hcl 6 (edgesN oi.after.toList) (fun n hn => getD_ft.1 (h3 n hn)) j ((chkTail_get hct hg).2 j (by omega))
       obtain ⟨o, z, Sj, g1, g2, g3, g4⟩ := G.get him
       rw [h2] at g1
       cases g1
       refine g4 Q _ ι S1 a w H (by rw [g3.h.1, hI.h]) (by rw [g3.h.2, hI.fr]) (fun t ht => ?_) fun ι' a' w' H' => ?_
       · rcases wri t zs.length with ⟨j, oj, f1, f2, f3⟩ | f1
         · have hje := ops him h2 ht f1 f2 f3
           have hji := edg him h2 j hje
           obtain ⟨zj, hzj⟩ : ∃ z, zs[j]? = some z := ⟨zs[j], List.getElem?_eq_getElem f1⟩
           rw [hI.on j oj zj t f1 (getD_ft.1 (h3 j hje)) f2 f3 hzj, can (by omega) g3 hji f2 f3 hzj]
         · rw [hI.off t fun j o f2 _ f3 => f1 j o f2 f3]
           refine (g3.look0 fun j o f2 f3 => f1 j o ?_ f3).symm
           rw [List.length_take] at f2
           omega
       · refine ih _ (S1.put oi.dst z) ι' a' w' (by simp [hs]) ?_ (fun j hj => ?_) ?_ ⟨?_, ?_, ?_, ?_⟩ H'
         · have := count_set listed.toList i (by simpa using h1)
           rw [Array.toList_setIfInBounds]
           omega
         · rw [Array.getElem?_setIfInBounds, if_neg (by omega)]
           exact hno j hj
         · intro k ok n f1 f2 f3
           have mono : ∀ j : Nat, listed[j]? = some true → (listed.setIfInBounds i true)[j]? = some true := by
             intro j hj
             rw [Array.getElem?_setIfInBounds]
             by_cases hij : i = j
             · subst hij
               rw [if_pos rfl, if_pos (Array.getElem?_eq_some_iff.1 hj).1]
             · rw [if_neg hij]; exact hj
           rw [Array.getElem?_setIfInBounds] at f1
           by_cases hik : i = k
           · subst hik
             rw [h2] at f2
             cases f2
             exact mono n (getD_ft.1 (h3 n f3))
           · rw [if_neg hik] at f1
             exact mono n (hcl k ok n f1 f2 f3)
         · rw [← hI.h]; cases oi.dst <;> rfl
         · rw [← hI.fr]; cases oi.dst <;> rfl
         · intro j oj zj t f1 f2 f3 f4 f5
           by_cases hij : i = j
           · subst hij
             rw [h2] at f3
             cases f3
             rw [g2] at f5
             cases f5
             rw [f4]
             exact look_put_eq
           · rw [Array.getElem?_setIfInBounds, if_neg hij] at f2
             rw [look_put_ne fun e => hij (dis f1 f3 f4 him h2 e)]
             exact hI.on j oj zj t f1 f2 f3 f4 f5
         · intro t ht
           have hti : oi.dst ≠ some t := ht i oi him (by rw [Array.getElem?_setIfInBounds, if_pos rfl, if_pos (by omega)]) h2
           rw [look_put_ne hti]
           refine hI.off t fun j oj f1 f2 f3 => ?_
           by_cases hij : i = j
           · subst hij
             rw [h1] at f2
             cases f2
           · exact ht j oj f1 (by rw [Array.getElem?_setIfInBounds, if_neg hij]; exact f2) f3
def DK (P : Program) [Globs P] (cx : Cx P) (Q : Exit → Act → World → Prop) (all : List Oper) (id : Nat) (k : List KI) (S0 : St) (p : List Oper × St) : Prop :=
 ∀ zs, Good P cx all S0 zs p.2 → all.drop zs.length = p.1 → zs.length ≤ all.length → AK P cx Q (.code (.region id all.toArray true) :: k) S0
theorem DK.fin {all rest : List Oper} {id : Nat} {k : List KI} {S0 S : St} (hm : P.follows .mixedOrders = true) (hc : chkAny (all.length - rest.length) all = true)
   (H : AK P cx Q (.ops all rest :: k) S) : DK P cx Q all id k S0 (rest, S) := by
 intro zs G hr hl ι a w HR
 have hlen : all.length - rest.length = zs.length := by
   simp only at hr
   rw [← hr, List.length_drop]
   omega
 rw [hlen] at hc
 have drew : ∀ {w : World}, Rel cx.X cx.L cx.w0 cx.nt ι S0 a w → Rel cx.X cx.L cx.w0 cx.nt ι S0 a { w with drawn := w.drawn + 1 } := fun H => H.drew
 show (Code.region id all.toArray true).wp P (den P cx Q k) a w
 refine wp_region_any hm ?_
 refine any_free G hl hc (fun ι a w H' => ?_) all.toArray.size (Array.replicate all.toArray.size false) S0 ι a _ (by simp) ?_ (fun j _ => ?_) (fun k o n h _ _ => ?_) ⟨rfl, rfl, fun i o z t _ h => ?_, fun t _ => rfl⟩ (drew HR)
 · rw [hr]
   exact H ι a w H'
 · exact Nat.le_trans (List.length_filter_le _ _) (by simp)
 · rw [Array.getElem?_replicate]
   split <;> simp
 · rw [Array.getElem?_replicate] at h
   split at h <;> simp at h
 · rw [Array.getElem?_replicate] at h
   split at h <;> simp at h
theorem AKp.drawn {ops : Array Oper} {id : Nat} {k : List KI} {S : St} (h : DK P cx Q ops.toList id k S (ops.toList, S)) : AKp P cx Q (.code (.region id ops true) :: k, S) :=
 h [] .nil rfl (Nat.zero_le _)
def runD (A : Ar) (τ : Tab) (nt : Nat) (all : List Oper) : Nat → List Oper → St → List Oper × St
 | _, [], S => ([], S)
 | j, o :: r, S => (match chkTail all j (o :: r) with
   | true => (o :: r, S)
   | false => (match (match o.dst with
       | some d => Nat.blt d nt
       | none => true), guardB all S o with
     | true, some true => (match pureOp A τ S o.op with
       | some z => runD A τ nt all (j + 1) r (S.put o.dst z)
       | none => (o :: r, S))
     | true, some false => runD A τ nt all (j + 1) r (S.put o.dst (.tup []))
     | _, _ => (o :: r, S)))
theorem dst_lt {o : Oper} {nt : Nat} (h : (match o.dst with
   | some d => Nat.blt d nt
   | none => true) = true) : ∀ n, o.dst = some n → n < nt := by
 intro n hn
 rw [hn] at h
 exact blt_lt h
theorem drop_cons {α : Type} {l r : List α} {o : α} {n : Nat} (h : l.drop n = o :: r) : l[n]? = some o ∧ l.drop (n + 1) = r ∧ n + 1 ≤ l.length := by
 have h1 : l[n]? = some o := by
   have := congrArg (·[0]?) h
   simpa using this
 refine ⟨h1, ?_, ?_⟩
 · have := congrArg List.tail h
   simpa using this
 · have := (List.getElem?_eq_some_iff.1 h1).1
   omega
theorem DK.snoc {all r : List Oper} {id : Nat} {k : List KI} {S0 S : St} {o : Oper} (z : AV) (hs : ∀ j, all[j]? = some o → StepOK P cx all S j o z) (h : DK P cx Q all id k S0 (r, S.put o.dst z)) :
   DK P cx Q all id k S0 (o :: r, S) := by
 intro zs G hr hl
 obtain ⟨h1, h2, h3⟩ := drop_cons hr
 exact h (zs ++ [z]) (.snoc z G h1 (hs _ h1)) (by simpa using h2) (by simpa using h3)
theorem DK.step (hτ : TabOK P τ) {all : List Oper} {id : Nat} {k : List KI} {S0 : St} : ∀ (r : List Oper) (j : Nat) (S : St), DK P cx Q all id k S0 (runD Ar.real τ cx.nt all j r S) → DK P cx Q all id k S0 (r, S)
 | [], j, S, h => h
 | o :: r, j, S, h => by
   unfold runD at h
   split at h
   · exact h
   · split at h
     · rename_i hd hg
       split at h
       · rename_i z hz
         refine DK.snoc z (fun j hj => ?_) (DK.step hτ r _ _ h)
         intro Q' K ι S1 a w H h1 h2 h3 hK
         unfold wpOp
         rw [show all.toArray[j]? = some o by simpa using hj]
         simp only
         rw [guardB_spec H (by rw [guardB_congr h3]; exact hg), if_pos rfl]
         refine .inl (stepOp_wp hτ H ?_ hK)
         unfold stepOp
         rw [pureOp_looks h1 h3, hz]
         cases hdst : o.dst with
         | none => rfl
         | some d =>
           rw [hdst] at hd
           simp only at hd ⊢
           rw [hd]
       · exact h
     · rename_i hd hg
       refine DK.snoc _ (fun j hj => ?_) (DK.step hτ r _ _ h)
       intro Q' K ι S1 a w H h1 h2 h3 hK
       unfold wpOp
       rw [show all.toArray[j]? = some o by simpa using hj]
       simp only
       rw [guardB_spec H (by rw [guardB_congr h3]; exact hg), if_neg (by simp)]
       exact hK ι _ w (H.put (dst_lt hd) (.tup [] [] rfl (by simp)))
     · exact h
theorem DK.run {F : Fam} (hF : F = Fam.real) (hτ : TabOK P τ) {n : Nat} (hn : cx.nt = n) (j : Nat) {all r : List Oper} {id : Nat} {k : List KI} {S0 S : St}
   (h : DK P cx Q all id k S0 (runD (Ar.of F) τ n all j r S)) : DK P cx Q all id k S0 (r, S) := by
 subst hF
 subst hn
 exact DK.step hτ r j S h
theorem DK.call0 {all r : List Oper} {id : Nat} {k : List KI} {S0 S : St} {o : Oper} {c : Call} {fo : Operand} {g : FuncId} {fi ca args : List AV} {Qc : AV → List (Nat × Blk) → Nat → Prop}
   (spec : ASpec P g args [] 0 Qc) (z : AV) (ho : o.op = .call c) (hc : c.callee = .value fo) (hg : guardB all S o = some true) (hd : ∀ d, o.dst = some d → d < cx.nt)
   (hf : fargs (evl S fo) = some (g, fi, ca)) (hargs : app3 fi (evls S c.args.toList) ca = rens _root_.id args) (hlt : lts 0 args = true)
   (hz : ∀ x h' fr', Qc x h' fr' → x.ren (shift _root_.id 0 S.fr) = z ∧ h' = [] ∧ fr' = 0)
   (next : DK P cx Q all id k S0 (r, S.put o.dst z)) :
   DK P cx Q all id k S0 (o :: r, S) := by
 refine DK.snoc z (fun j hj => ?_) next
 intro Q' K ι S1 a w H h1 h2 h3 hK
 unfold wpOp
 rw [show all.toArray[j]? = some o by simpa using hj]
 simp only
 rw [guardB_spec H (by rw [guardB_congr h3]; exact hg), if_pos rfl]
 have ev : ∀ x, x ∈ o.op.operands.toList → evl S1 x = evl S x := fun x hx => evl_congr fun t ht => h3 t (by
   subst ht
   simp only [looksT, Oper.looksAt, List.mem_append]
   exact .inl (List.mem_filterMap.2 ⟨.tmp t, hx, rfl⟩))
 rw [ho] at ev
 refine .inl (call_wp H spec _root_.id ho hc hd (fi := fi) (ca := ca) ?_ ?_ hlt (fun n hn => absurd hn (by omega)) (fun n B h => by simp [look] at h) (fun n m h => absurd h (by omega)) fun x h' fr' hQ ι' a' w' H' => ?_)
 · rw [ev fo (by simp [Op.operands, Call.operands, hc])]
   exact hf
 · rw [evls_congr (S' := S) fun x hx => ev x (by simp [Op.operands, Call.operands, Array.mem_toList_iff.1 hx])]
   exact hargs
 · obtain ⟨rfl, rfl, rfl⟩ := hz x h' fr' hQ
   rw [h2] at H'
   exact hK ι' a' w' (by
     have e : St.after S1 _root_.id 0 [] 0 = S1 := rfl
     rw [← e]; exact H')
end
end Go.Ua
