/- The library of this claim and its walks, part 7, joined out of smaller texts. No statement stands in it. -/
import Derived.Test.YtpmpajodihpkaaaGreatDoorUaM6
import Derived.Laws.CopyRow
set_option linter.unusedSimpArgs false
set_option linter.unusedVariables false
namespace Go.Ua
open Go
section
variable {X L : Nat → Prop} {w0 : W0} {w w' : World} {nt : Nat} {ι : Io} {S : St} {a : Act} {P : Program} {τ : Tab} {R : Rd}
def dels (n0 : Option Nat) (h : List (Nat × Blk)) : List (Nat × Blk) := match n0 with
 | some n => del n h
 | none => h
def upd (ι : Io) (m : Nat) (loc : Loc) : Io := fun n => if n = m then some loc else ι n
theorem look_dels {n0 : Option Nat} {h : List (Nat × Blk)} {n : Nat} {B : Blk} (hl : look n (dels n0 h) = some B) : look n h = some B ∧ n0 ≠ some n := by
 cases n0 with
 | none => exact ⟨hl, by simp⟩
 | some k =>
   simp only [dels, look_del] at hl
   split at hl
   · cases hl
   · rename_i hne
     exact ⟨hl, fun e => hne (Option.some.inj e).symm⟩
theorem Rel.change (H : Rel X L w0 nt ι S a w) {n0 : Option Nat} {m fr' : Nat} {loc : Loc} {B : Blk}
   (hfr : S.fr ≤ fr' ∧ m < fr')
   (hm : ι m = none ∨ (n0 = some m ∧ ι m = some loc))
   (hheap : ∀ b, b < w.heap.size → (∀ n c l, n0 = some n → (look n S.h).isSome = true → ι n ≠ some (.blk b c l)) → w'.heap[b]? = w.heap[b]?)
   (hloc : ∀ b c l, loc = .blk b c l → w.heap.size ≤ b ∨ ∃ n c l, n0 = some n ∧ (look n S.h).isSome = true ∧ ι n = some (.blk b c l))
   (hos : w'.os = w.os) (htape : w'.tape = w.tape) (hout : w'.output = w.output) (hsize : w.heap.size ≤ w'.heap.size)
   (hB : (∀ b o v, rdOf L ι S.h w b o v → rdOf L (upd ι m loc) ((m, B) :: dels n0 S.h) w' b o v) → (∀ n p, ι n = some p → upd ι m loc n = some p) →
     RepB (rdOf L (upd ι m loc) ((m, B) :: dels n0 S.h) w') (upd ι m loc) w' m B) :
   Rel X L w0 nt (upd ι m loc) ⟨S.t, (m, B) :: dels n0 S.h, fr'⟩ a w' ∧
   (∀ b o v, rdOf L ι S.h w b o v → rdOf L (upd ι m loc) ((m, B) :: dels n0 S.h) w' b o v) ∧ (∀ n p, ι n = some p → upd ι m loc n = some p) := by
 have hι : ∀ n p, ι n = some p → upd ι m loc n = some p := by
   intro n p hp
   unfold upd
   split
   · rename_i e
     subst e
     rcases hm with e | ⟨_, e⟩
     · rw [e] at hp; cases hp
     · rw [← hp, e]
   · exact hp
 have names : ∀ n b c l, (look n ((m, B) :: dels n0 S.h)).isSome = true → upd ι m loc n = some (.blk b c l) →
     (n = m ∧ loc = .blk b c l) ∨ (n ≠ m ∧ (look n S.h).isSome = true ∧ n0 ≠ some n ∧ ι n = some (.blk b c l)) := by
   intro n b c l h1 h2
   unfold upd at h2
   by_cases e : n = m
   · rw [if_pos e] at h2; exact .inl ⟨e, Option.some.inj h2⟩
   · rw [if_neg e] at h2
     rw [look_cons, if_neg (fun h => e h.symm)] at h1
     obtain ⟨B', hB'⟩ := Option.isSome_iff_exists.1 h1
     obtain ⟨h3, h4⟩ := look_dels hB'
     exact .inr ⟨e, by rw [h3]; rfl, h4, h2⟩
 have lt : ∀ n b c l, (look n S.h).isSome = true → ι n = some (.blk b c l) → b < w.heap.size := by
   intro n b c l h1 h2
   obtain ⟨B', hB'⟩ := Option.isSome_iff_exists.1 h1
   exact (H.hr.hp n B' hB').lt h2
 have hs : ∀ b, b < w.heap.size → ¬ bad L ι S.h b → w'.heap[b]? = w.heap[b]? ∧ ¬ bad L (upd ι m loc) ((m, B) :: dels n0 S.h) b := by
   intro b hb hnb
   refine ⟨hheap b hb (fun n c l h1 h2 h3 => hnb (.inr ⟨n, c, l, h2, h3⟩)), ?_⟩
   rintro (h1 | ⟨n, c, l, h1, h2⟩)
   · exact hnb (.inl h1)
   · rcases names n b c l h1 h2 with ⟨rfl, h3⟩ | ⟨_, h3, _, h4⟩
     · rcases hloc b c l h3 with h4 | ⟨n', c', l', _, h5, h6⟩
       · omega
       · exact hnb (.inr ⟨n', c', l', h5, h6⟩)
     · exact hnb (.inr ⟨n, c, l, h3, h4⟩)
 have hR := rdOf_step (L := L) (ι := ι) (h := S.h) (w := w) (w' := w') (ι' := upd ι m loc) (h' := (m, B) :: dels n0 S.h) hs
 have hout' : ∀ b c l, loc = .blk b c l → ¬ L b ∧ (X b ∨ w0.w.heap.size ≤ b) := by
   intro b c l h
   rcases hloc b c l h with h1 | ⟨n, c', l', _, h2, h3⟩
   · exact ⟨fun hL => by have := H.hr.lb b hL; have := H.hr.kp.size; omega, .inr (Nat.le_trans H.hr.kp.size h1)⟩
   · exact H.hr.out n b c' l' h2 h3
 refine ⟨Rel.world H (w' := w') (h' := (m, B) :: dels n0 S.h) (fr' := fr') (ι' := upd ι m loc)
   (H.hr.step (Y := fun b => ∃ n c l, n0 = some n ∧ (look n S.h).isSome = true ∧ ι n = some (.blk b c l)) hι hs ?_ ?_ ?_ ?_ ?_ ?_) hι hs, hR, hι⟩
 · intro n B' hl
   rw [look_cons] at hl
   by_cases e : m = n
   · rw [if_pos e] at hl
     obtain rfl := Option.some.inj hl
     subst e
     exact .inr (hB hR hι)
   · rw [if_neg e] at hl
     obtain ⟨h1, h2⟩ := look_dels hl
     refine .inl ⟨h1, fun b c l h3 => hheap b (lt n b c l (by rw [h1]; rfl) h3) ?_⟩
     intro n' c' l' h4 h5 h6
     have := H.hr.inj n n' b c l c' l' (by rw [h1]; rfl) h5 h3 h6
     subst this
     exact h2 h4
 · intro n n' b c l c' l' h1 h2 h3 h4
   have own : ∀ k c l, k ≠ m → (look k S.h).isSome = true → n0 ≠ some k → ι k = some (.blk b c l) → (∃ c l, loc = .blk b c l) → False := by
     intro k c l h5 h6 h7 h8 ⟨c', l', h9⟩
     rcases hloc b c' l' h9 with h10 | ⟨q, c2, l2, h11, h12, h13⟩
     · have := lt k b c l h6 h8; omega
     · have := H.hr.inj k q b c l c2 l2 h6 h12 h8 h13
       subst this
       exact h7 h11
   rcases names n b c l h1 h3 with ⟨rfl, h5⟩ | ⟨h5, h6, h7, h8⟩ <;> rcases names n' b c' l' h2 h4 with ⟨rfl, h9⟩ | ⟨h9, h10, h11, h12⟩
   · rfl
   · exact (own n' c' l' h9 h10 h11 h12 ⟨_, _, h5⟩).elim
   · exact (own n c l h5 h6 h7 h8 ⟨_, _, h9⟩).elim
   · exact H.hr.inj n n' b c l c' l' h6 h10 h8 h12
 · intro n b c l h1 h2
   rcases names n b c l h1 h2 with ⟨rfl, h5⟩ | ⟨h5, h6, h7, h8⟩
   · exact hout' b c l h5
   · exact H.hr.out n b c l h6 h8
 · intro n hn
   unfold upd
   rw [if_neg (by omega)]
   exact H.hr.fresh n (by omega)
 · refine ⟨hos, htape, hout, hsize, fun k hk hY => hheap k hk (fun n c l h1 h2 h3 => hY ⟨n, c, l, h1, h2, h3⟩)⟩
 · rintro b ⟨n, c, l, _, h2, h3⟩
   exact (H.hr.out n b c l h2 h3).2
theorem Rel.alloc (H : Rel X L w0 nt ι S a w) {B : Blk} {o : Obj} {cap len : Nat}
   (hB : ∀ (R' : Rd) (ι' : Io) (w' : World), (∀ b o v, rdOf L ι S.h w b o v → R' b o v) → (∀ n p, ι n = some p → ι' n = some p) →
     ι' S.fr = some (.blk w.heap.size cap len) → w'.heap[w.heap.size]? = some o → RepB R' ι' w' S.fr B) :
   Rel X L w0 nt (upd ι S.fr (.blk w.heap.size cap len)) ⟨S.t, (S.fr, B) :: S.h, S.fr + 1⟩ a (w.alloc o) ∧
   (∀ b o' v, rdOf L ι S.h w b o' v → rdOf L (upd ι S.fr (.blk w.heap.size cap len)) ((S.fr, B) :: S.h) (w.alloc o) b o' v) ∧
   (∀ n p, ι n = some p → upd ι S.fr (.blk w.heap.size cap len) n = some p) := by
 have := H.change (w' := w.alloc o) (n0 := none) (m := S.fr) (fr' := S.fr + 1) (loc := .blk w.heap.size cap len) (B := B) ⟨by omega, by omega⟩ (.inl (H.hr.fresh _ (Nat.le_refl _)))
   (fun b hb _ => heap_alloc_old w o b hb) (fun b c l h => by cases h; exact .inl (Nat.le_refl _)) rfl rfl rfl (by simp)
   (fun hR hι => hB _ _ _ hR hι (by simp [upd]) (heap_alloc_new w o))
 exact this
end
end Go.Ua
namespace Go.Ua
open Go
section
variable {X L : Nat → Prop} {w0 : W0} {w w' : World} {nt : Nat} {ι : Io} {S : St} {a : Act} {P : Program} {τ : Tab} {R : Rd}
def zcells (y : Ty) : List AV := y.zero.map fun x => .d (.s x)
def okZero (y : Ty) : Bool := y.k.isAgg || y.zero.length == 1
theorem okZero_or {y : Ty} (h : okZero y = true) : y.k.isAgg = true ∨ y.zero.length = 1 := by
 simpa [okZero] using h
def St.new (S : St) (B : Blk) : St := ⟨S.t, (S.fr, B) :: S.h, S.fr + 1⟩
def St.wr (S : St) (n : Nat) (B : Blk) : St := ⟨S.t, (n, B) :: del n S.h, S.fr⟩
def St.rep (S : St) (n : Nat) (B : Blk) : St := ⟨S.t, (S.fr, B) :: del n S.h, S.fr + 1⟩
def allocOp (τ : Tab) (S : St) (t : TypeId) : Option (AV × St) :=
 match look t τ with
 | some y => (match okZero y with
   | true => some (.ptr S.fr 0 0 y.size, S.new (.cs t (zcells y)))
   | false => none)
 | none => none
theorem zero_rep (y : Ty) (ho : ∀ x, x ∈ y.zero → x.ok) : ∀ (i : Nat) (c : AV) (u : Value), (zcells y)[i]? = some c → (y.zero.map Sc.val)[i]? = some u → RepV R ι c u := by
 intro i c u hc hv
 unfold zcells at hc
 rw [List.getElem?_map, Option.map_eq_some_iff] at hc hv
 obtain ⟨x, hx, rfl⟩ := hc
 obtain ⟨x', hx', rfl⟩ := hv
 rw [hx] at hx'
 cases hx'
 exact .d _ _ (.s x (ho x (List.mem_iff_getElem?.2 ⟨_, hx⟩)))
theorem zero_one (y : Ty) : ∀ u ∈ y.zero.map Sc.val, u.oneCell' = true := by
 intro u hu
 simp only [List.mem_map] at hu
 obtain ⟨x, _, rfl⟩ := hu
 exact x.one
theorem alloc_run (hτ : TabOK P τ) (H : Rel X L w0 nt ι S a w) {t : TypeId} {z : AV} {S' : St} (h : allocOp τ S t = some (z, S')) :
   ∃ v w' ι', (Instr.alloc t true (.tuple #[])).run P w = .ok v w' ∧ Rel X L w0 nt ι' S' a w' ∧ RepV (rdOf L ι' S'.h w') ι' z v := by
 unfold allocOp at h
 split at h
 · rename_i y hy
   split at h
   · rename_i hz
     simp only [Option.some.injEq, Prod.mk.injEq] at h
     obtain ⟨rfl, rfl⟩ := h
     obtain ⟨d, i, hu, hi, hs, hb, hzv, hzl, hk, hzo, _⟩ := hτ.get hy
     obtain ⟨h1, h2, h3⟩ := H.alloc (B := .cs t (zcells y)) (o := .cells (y.zero.map Sc.val).toArray t (0, 0)) (cap := 1) (len := 0)
       (fun R' ι' w' hR hι hi hb => .cs t _ _ _ _ (y.zero.map Sc.val) hi hb (by simp [zcells]) (zero_one y) (fun j c v hc hv => zero_rep y hzo j c v hc hv))
     refine ⟨.pointer (some ⟨w.heap.size, 0, none⟩), _, _, ?_, h1, ?_⟩
     · simp only [Instr.alloc, Sem.run_bind, zeroValue, typeInfo, run_program, hi, Sem.run_pure, Result.andThen_ok, hzv, newVar, newRow, newObj, zval_cells y (okZero_or hz)]
       rfl
     · have := RepV.ptr (R := rdOf L (upd ι S.fr (.blk w.heap.size 1 0)) (S.new (.cs t (zcells y))).h (w.alloc (.cells (y.zero.map Sc.val).toArray t (0, 0)))) (ι := upd ι S.fr (.blk w.heap.size 1 0)) S.fr 0 0 y.size w.heap.size 1 0 (by simp [upd])
       simpa using this
   · cases h
 · cases h
def boxOp (τ : Tab) (S : St) (t : TypeId) (x : AV) : Option (AV × St) :=
 match x.st with
 | true => some (.ptr S.fr 0 0 (sizeAt τ t), S.new (.cs t x.cells))
 | false => none
theorem box_run (H : Rel X L w0 nt ι S a w) {t : TypeId} {x z : AV} {v : Value} {S' : St} (hx : RepV (rdOf L ι S.h w) ι x v) (h : boxOp τ S t x = some (z, S')) :
   ∃ u w' ι', (Instr.box t v).run P w = .ok u w' ∧ Rel X L w0 nt ι' S' a w' ∧ RepV (rdOf L ι' S'.h w') ι' z u := by
 unfold boxOp at h
 split at h
 · rename_i hst
   simp only [Option.some.injEq, Prod.mk.injEq] at h
   obtain ⟨rfl, rfl⟩ := h
   obtain ⟨vs, hvs, hvl, hv1, hvr⟩ := hx.cells hst
   obtain ⟨h1, h2, h3⟩ := H.alloc (B := .cs t x.cells) (o := .cells vs.toArray t (0, 0)) (cap := 1) (len := 0)
     (fun R' ι' w' hR hι hi hb => .cs t _ _ _ _ vs hi hb hvl.symm hv1 (fun j c v hc hv => (hvr j c v hc hv).mono hR hι))
   refine ⟨.pointer (some ⟨w.heap.size, 0, none⟩), _, _, ?_, h1, ?_⟩
   · simp only [Instr.box, Sem.run_bind, newVar, newRow, newObj, hvs]
     rfl
   · have := RepV.ptr (R := rdOf L (upd ι S.fr (.blk w.heap.size 1 0)) (S.new (.cs t x.cells)).h (w.alloc (.cells vs.toArray t (0, 0)))) (ι := upd ι S.fr (.blk w.heap.size 1 0)) S.fr 0 0 (sizeAt τ t) w.heap.size 1 0 (by simp [upd])
     simpa using this
 · cases h
def splice {α : Type} (l : List α) (o : Nat) (xs : List α) : List α := l.take o ++ (xs ++ l.drop (o + xs.length))
def storeOp (A : Ar) (τ : Tab) (S : St) (t : TypeId) (p x : AV) : Option St :=
 match p, x.st with
 | .ptr n i off k, true => (match look n S.h with
   | some (.cs T cells) => if x.cells.length = sizeAt τ t ∧ i * k + off + x.cells.length ≤ cells.length then some (S.wr n (.cs T (splice cells (i * k + off) x.cells))) else none
   | some (.ds E k' es) => if k = k' ∧ x.cells.length = sizeAt τ t then (match A.nthD es i, unDs x.cells with
     | some e, some ds => if off + ds.length ≤ k then (if k = ds.length then (match x with
         | .d d => some (S.wr n (.ds E k' (A.setD es i d)))
         | _ => none) else some (S.wr n (.ds E k' (A.setD es i (.agg (splice e.cells off ds)))))) else none
     | _, _ => none) else none
   | some (.xs E k' m es cells) => if k = k' ∧ x.cells.length = sizeAt τ t then (match Nat.beq i m with
     | true => if off + x.cells.length ≤ k then some (S.wr n (.xs E k' m es (splice cells off x.cells))) else none
     | false => none) else none
   | some (.mp _) => none
   | none => none)
 | _, _ => none
theorem splice_length {α : Type} {l xs : List α} {o : Nat} (h : o + xs.length ≤ l.length) : (splice l o xs).length = l.length := by
 simp [splice]; omega
theorem splice_get {α : Type} {l xs : List α} {o j : Nat} (h : o + xs.length ≤ l.length) : (splice l o xs)[j]? = if o ≤ j ∧ j < o + xs.length then xs[j - o]? else l[j]? := by
 unfold splice
 have e1 : (l.take o).length = o := by simp; omega
 split
 · rename_i hc
   rw [List.getElem?_append_right (by omega), e1, List.getElem?_append_left (by omega)]
 · rename_i hc
   rcases Nat.lt_or_ge j o with h2 | h2
   · rw [List.getElem?_append_left (by omega), List.getElem?_take, if_pos h2]
   · rw [List.getElem?_append_right (by omega), e1, List.getElem?_append_right (by omega), List.getElem?_drop]
     congr 1
     omega
theorem splice_mem {α : Type} {l xs : List α} {o : Nat} {u : α} (h : u ∈ splice l o xs) : u ∈ l ∨ u ∈ xs := by
 simp only [splice, List.mem_append] at h
 rcases h with h | h | h
 · exact .inl (List.mem_of_mem_take h)
 · exact .inr h
 · exact .inl (List.mem_of_mem_drop h)
theorem run_storeCells_fz (P : Program) (g o : Nat) (t : TypeId) (fz : Nat × Nat) : ∀ (vs : List Value) (i : Nat) (cur : Array Value) (w : World), w.heap[g]? = some (.cells cur t fz) → FzOK fz cur.size → o + i + vs.length ≤ cur.size → (∀ v ∈ vs, v.oneCell' = true) →
   (storeCells ⟨g, o, none⟩ vs i).run P w = .ok () (w.setRow g (cur.toList.take (o + i) ++ vs ++ cur.toList.drop (o + i + vs.length)).toArray)
 | [], i, cur, w, hg, _, _, _ => by
   simp only [storeCells, List.append_nil, List.length_nil, Nat.add_zero, List.take_append_drop, Array.toArray_toList]
   rw [setRow_self w g cur t fz hg]
   rfl
 | v :: rest, i, cur, w, hg, hfz, hl, h1 => by
   have hi : o + i < cur.size := by simp at hl; omega
   have hadd : (⟨g, o, none⟩ : Addr).add i = ⟨g, o + i, none⟩ := by unfold Addr.add; split <;> simp_all
   have hcell : w.cell? ⟨g, o + i, none⟩ = some cur[o + i] := by simp [World.cell?, hg, hi]
   have hfro : w.frozen? ⟨g, o + i, none⟩ = false := by
     obtain ⟨lo, hi'⟩ := fz
     simp only [World.frozen?, hg, Bool.and_eq_false_iff, decide_eq_false_iff_not]
     rcases hfz with h | h
     · cases h; right; omega
     · left; simp only at h; omega
   have hst : (store ((⟨g, o, none⟩ : Addr).add i) v).run P w = .ok () (w.setRow g (cur.setIfInBounds (o + i) v)) := by
     rw [hadd, run_store P w _ v _ (h1 v (by simp)), hcell]
     simp [hfro, setCell_eq_setRow w g (o + i) cur t fz v hg]
   have ih := run_storeCells_fz P g o t fz rest (i + 1) (cur.setIfInBounds (o + i) v) (w.setRow g (cur.setIfInBounds (o + i) v)) (setRow_heap w g cur _ t _ hg) (by simpa using hfz) (by simp at hl ⊢; omega) (fun x hx => h1 x (by simp [hx]))
   simp only [storeCells, Sem.run_bind, hst, Result.andThen_ok, ih, setRow_setRow]
   congr 3
   have e := list_seg_step cur.toList (o + i) v rest (by simp at hl ⊢; omega)
   simpa [Array.toList_setIfInBounds, Nat.add_assoc] using e
theorem Rel.write (H : Rel X L w0 nt ι S a w) {n b c l : Nat} {B B' : Blk} {T : TypeId} {cur cur' : List Value} {fz : Nat × Nat} (hn : look n S.h = some B) (hi : ι n = some (.blk b c l))
   (hb : w.heap[b]? = some (.cells cur.toArray T fz))
   (hB : ∀ (R' : Rd) (ι' : Io) (w' : World), (∀ b o v, rdOf L ι S.h w b o v → R' b o v) → (∀ n p, ι n = some p → ι' n = some p) →
     w'.heap[b]? = some (.cells cur'.toArray T fz) → RepB R' ι' w' n B') :
   ∃ ι', Rel X L w0 nt ι' (S.wr n B') a (w.setRow b cur'.toArray) ∧ ∀ k, ι' k = ι k := by
 have hfr : n < S.fr := by
   rcases Nat.lt_or_ge n S.fr with h | h
   · exact h
   · rw [H.hr.fresh n h] at hi; cases hi
 have := H.change (w' := w.setRow b cur'.toArray) (n0 := some n) (m := n) (fr' := S.fr) (loc := .blk b c l) (B := B') ⟨Nat.le_refl _, hfr⟩ (.inr ⟨rfl, hi⟩)
   (fun b' hb' hne => setRow_other w b b' _ (fun e => hne n c l rfl (by rw [hn]; rfl) (by rw [e]; exact hi)))
   (fun b' c' l' h => by cases h; exact .inr ⟨n, c, l, rfl, by rw [hn]; rfl, hi⟩) rfl rfl rfl (by simp)
   (fun hR hι => hB _ _ _ hR hι (setRow_heap w b _ _ T _ hb))
 refine ⟨_, this.1, fun k => ?_⟩
 unfold upd
 split
 · rename_i e; rw [e, hi]
 · rfl
theorem mul_lt {i n k : Nat} (h : i < n) : i * k + k ≤ n * k := by
 have := Nat.mul_le_mul_right k h
 rw [Nat.succ_mul] at this
 exact this
theorem elem_ne {i j k o p : Nat} (ho : o < k) (hp : p < k) (h : i * k + o = j * k + p) : i = j ∧ o = p := by
 have hk : 0 < k := by omega
 have e1 : (i * k + o) / k = i := by rw [Nat.mul_comm, Nat.mul_add_div hk, Nat.div_eq_of_lt ho]; rfl
 have e2 : (j * k + p) / k = j := by rw [Nat.mul_comm, Nat.mul_add_div hk, Nat.div_eq_of_lt hp]; rfl
 have hij : i = j := by rw [← e1, ← e2, h]
 subst hij
 exact ⟨rfl, by omega⟩
theorem store_run (hτ : TabOK P τ) (H : Rel X L w0 nt ι S a w) {t : TypeId} {p x : AV} {pv v : Value} {S' : St} (hp : RepV (rdOf L ι S.h w) ι p pv) (hx : RepV (rdOf L ι S.h w) ι x v)
   (hne : sizeAt τ t ≠ 0) (h : storeOp Ar.real τ S t p x = some S') :
   ∃ w' ι', (Instr.storeAt t pv v).run P w = .ok () w' ∧ Rel X L w0 nt ι' S' a w' ∧ ∀ k, ι' k = ι k := by
 unfold storeOp at h
 split at h
 · rename_i n i off k hst
   obtain ⟨vs, hvs, hvl, hv1, hvr⟩ := hx.cells hst
   obtain ⟨ti, y, hy, hi, hs⟩ := sizeAt_run hτ hne
   cases hp with
   | ptr _ _ _ _ b c l hib =>
   have run : ∀ {T : TypeId} {cur : List Value} {fz : Nat × Nat}, w.heap[b]? = some (.cells cur.toArray T fz) → FzOK fz cur.length → x.cells.length = sizeAt τ t → i * k + off + vs.length ≤ cur.length →
       (Instr.storeAt t (.pointer (some ⟨b, i * k + off, none⟩)) v).run P w = .ok () (w.setRow b (splice cur (i * k + off) vs).toArray) := by
     intro T cur fz hb hfz hlen hle
     have h1 := run_storeCells_fz P b (i * k + off) T fz vs 0 cur.toArray w hb (by simpa using hfz) (by simpa using hle) hv1
     have h2 : vs.length = ti.size := by omega
     simp only [Nat.add_zero, List.append_assoc] at h1
     simp only [Instr.storeAt, Instr.sureAddr, Sem.run_bind, Sem.run_pure, Result.andThen_ok, storeVar, sizeOf_run hi, hvs]
     rw [if_neg (by simpa using h2)]
     simp only [splice]
     exact h1
   split at h
   · rename_i T cells hlook
     split at h
     · rename_i hc
       obtain rfl := Option.some.inj h
       cases H.hr.hp n _ hlook with
       | cs _ _ b' cap l'' cur hi' hb hlen h1 hrep =>
       rw [hib] at hi'; cases hi'
       have hle : i * k + off + vs.length ≤ cur.length := by omega
       obtain ⟨ι', hrel⟩ := H.write (B' := .cs T (splice cells (i * k + off) x.cells)) (cur' := splice cur (i * k + off) vs) hlook hib hb
         (fun R' ι' w' hR hι hb' => .cs T _ b c l (splice cur (i * k + off) vs) (hι _ _ hib) hb' (by rw [splice_length hle, splice_length (by omega)]; exact hlen)
           (fun u hu => (splice_mem hu).elim (h1 u) (hv1 u)) (fun j x' u hc' hu => by
             rw [splice_get (by omega)] at hc' hu
             rw [← hvl] at hu
             split at hc'
             · rename_i hj
               rw [if_pos hj] at hu
               exact (hvr _ _ _ hc' hu).mono hR hι
             · rename_i hj
               rw [if_neg hj] at hu
               exact (hrep _ _ _ hc' hu).mono hR hι))
       exact ⟨_, ι', run hb (.inl rfl) hc.1 hle, hrel⟩
     · cases h
   · rename_i E k' es hlook
     split at h
     · rename_i hc
       obtain ⟨rfl, hlen⟩ := hc
       split at h
       · rename_i e ds he hds
         have he' : es[i]? = some e := he
         have hcells := unDs_some hds
         split at h
         · rename_i hle
           cases H.hr.hp n _ hlook with
           | ds0 => simp at he'
           | ds _ _ _ b' cap cur hi' hb hlc hcap hmx hk0 hkk h1 hrep =>
           obtain ⟨fz, hb, hfz⟩ := hb
           rw [hib] at hi'; cases hi'
           have hilt : i < es.length := (List.getElem?_eq_some_iff.1 he').1
           have hml := mul_lt (k := k) hilt
           have hmc : es.length * k ≤ c * k := Nat.mul_le_mul_right k hcap
           have hdl : ds.length = vs.length := by rw [← hvl, hcells]; simp
           have hle2 : i * k + off + vs.length ≤ cur.length := by omega
           have hek := hkk i e he'
           have hvd : ∀ (j : Nat) (d : Dat) (u : Value), ds[j]? = some d → vs[j]? = some u → RepD (rdOf L ι S.h w) d u := by
             intro j d u h2 h3
             exact rep_d (hvr j (.d d) u (by rw [hcells]; simp [h2]) h3)
           have fin : ∀ e' : Dat, e'.cells = splice e.cells off ds → ∃ w' ι', (Instr.storeAt t (.pointer (some ⟨b, i * k + off, none⟩)) v).run P w = .ok () w' ∧
               Rel X L w0 nt ι' (S.wr n (.ds E k (es.set i e'))) a w' ∧ ∀ k, ι' k = ι k := by
             intro e' he2
             have hsl : (splice e.cells off ds).length = k := by rw [splice_length (by omega)]; exact hek
             obtain ⟨ι', hrel⟩ := H.write (B' := .ds E k (es.set i e')) (cur' := splice cur (i * k + off) vs) hlook hib hb
               (fun R' ι' w' hR hι hb' => .ds E k _ b c (splice cur (i * k + off) vs) (by rw [List.length_set]; exact hι _ _ hib) ⟨fz, hb', by rw [splice_length hle2]; exact hfz⟩ (by rw [splice_length hle2]; exact hlc)
                 (by rw [List.length_set]; exact hcap) hmx hk0
                 (fun j x' hx' => by
                   rw [List.getElem?_set] at hx'
                   by_cases hij : i = j
                   · subst hij
                     rw [if_pos rfl, if_pos hilt] at hx'
                     obtain rfl := Option.some.inj hx'
                     rw [he2, hsl]
                   · rw [if_neg hij] at hx'
                     exact hkk j x' hx')
                 (fun u hu => by
                   rw [List.length_set] at hu
                   obtain ⟨j, hj⟩ := List.mem_iff_getElem?.1 hu
                   rw [List.getElem?_take] at hj
                   split at hj
                   · rename_i hj2
                     rw [splice_get hle2] at hj
                     split at hj
                     · exact hv1 u (List.mem_of_getElem? hj)
                     · refine h1 u (List.mem_iff_getElem?.2 ⟨j, ?_⟩)
                       rw [List.getElem?_take, if_pos hj2]
                       exact hj
                   · cases hj)
                 (fun j x' m d u hx' hd hu => by
                   rw [splice_get hle2] at hu
                   rw [List.getElem?_set] at hx'
                   have hmk : m < k := by
                     have h5 := (List.getElem?_eq_some_iff.1 hd).1
                     by_cases hij : i = j
                     · subst hij
                       rw [if_pos rfl, if_pos hilt] at hx'
                       obtain rfl := Option.some.inj hx'
                       rw [he2, hsl] at h5; exact h5
                     · rw [if_neg hij] at hx'
                       rw [hkk j x' hx'] at h5; exact h5
                   by_cases hij : i = j
                   · subst hij
                     rw [if_pos rfl, if_pos hilt] at hx'
                     obtain rfl := Option.some.inj hx'
                     rw [he2, splice_get (by omega)] at hd
                     split at hd
                     · rename_i hm
                       rw [if_pos (by omega)] at hu
                       rw [show i * k + m - (i * k + off) = m - off by omega] at hu
                       exact (hvd _ _ _ hd hu).mono hR
                     · rename_i hm
                       rw [if_neg (by omega)] at hu
                       exact (hrep _ _ _ _ _ he' hd hu).mono hR
                   · rw [if_neg hij] at hx'
                     rw [if_neg (fun hm => hij (by
                       have h6 : i * k + (j * k + m - i * k) = j * k + m := by omega
                       exact (elem_ne (by omega) hmk h6).1))] at hu
                     exact (hrep _ _ _ _ _ hx' hd hu).mono hR))
             exact ⟨_, ι', run hb hfz hlen hle2, hrel⟩
           split at h
           · rename_i hkd
             split at h
             · rename_i d
               obtain rfl := Option.some.inj h
               have hoff : off = 0 := by omega
               subst hoff
               refine fin d ?_
               have : d.cells = ds := by
                 simp only [AV.cells] at hds
                 have h7 := unDs_some hds
                 exact (List.map_inj_right (fun x y h => by cases h; rfl)).1 h7
               rw [this]
               have e1 : e.cells.drop ds.length = [] := List.drop_eq_nil_of_le (by omega)
               simp [splice, e1]
             · cases h
           · rename_i hkd
             obtain rfl := Option.some.inj h
             exact fin _ rfl
         · cases h
       · cases h
     · cases h
   · rename_i E k' m es cells hlook
     split at h
     · rename_i hc
       obtain ⟨rfl, hlen⟩ := hc
       split at h
       · rename_i hbq
         obtain rfl := Nat.eq_of_beq_eq_true hbq
         split at h
         · rename_i hle
           obtain rfl := Option.some.inj h
           cases H.hr.hp n _ hlook with
           | xs0 _ _ _ _ hi' => rw [hib] at hi'; cases hi'
           | xs _ _ _ _ _ b' cap cur hi' hb hlc hcap hmx hk0 hlm hkl hkk h1 hrep hrep2 =>
           obtain ⟨fz, hb, hfz⟩ := hb
           rw [hib] at hi'; cases hi'
           have hmc : es.length * k ≤ c * k := Nat.mul_le_mul_right k hcap
           have hme : (i + 1) * k = es.length * k := by rw [hlm]
           rw [Nat.add_mul, Nat.one_mul] at hme
           have hle2 : i * k + off + vs.length ≤ cur.length := by omega
           obtain ⟨ι', hrel⟩ := H.write (B' := .xs E k i es (splice cells off x.cells)) (cur' := splice cur (i * k + off) vs) hlook hib hb
             (fun R' ι' w' hR hι hb' => .xs E k i es _ b c (splice cur (i * k + off) vs) (hι _ _ hib) ⟨fz, hb', by rw [splice_length hle2]; exact hfz⟩ (by rw [splice_length hle2]; exact hlc) hcap hmx hk0 hlm
               (by rw [splice_length (by omega)]; exact hkl) hkk
               (fun u hu => by
                 obtain ⟨j, hj⟩ := List.mem_iff_getElem?.1 hu
                 rw [List.getElem?_take] at hj
                 split at hj
                 · rename_i hj2
                   rw [splice_get hle2] at hj
                   split at hj
                   · exact hv1 u (List.mem_of_getElem? hj)
                   · refine h1 u (List.mem_iff_getElem?.2 ⟨j, ?_⟩)
                     rw [List.getElem?_take, if_pos hj2]
                     exact hj
                 · cases hj)
               (fun q e j c' u hq he hc' hu => by
                 have hjk := (List.getElem?_eq_some_iff.1 hc').1
                 rw [hkk q e hq he] at hjk
                 have hqk : (q + 1) * k ≤ i * k := Nat.mul_le_mul_right k hq
                 rw [Nat.add_mul, Nat.one_mul] at hqk
                 rw [splice_get hle2, if_neg (by omega)] at hu
                 exact (hrep q e j c' u hq he hc' hu).mono hR)
               (fun j c' u hc' hu => by
                 rw [splice_get (by omega)] at hc'
                 rw [splice_get hle2] at hu
                 split at hc'
                 · rename_i hj
                   rw [if_pos (by omega)] at hu
                   rw [show i * k + j - (i * k + off) = j - off by omega] at hu
                   exact (hvr _ _ _ hc' hu).mono hR hι
                 · rename_i hj
                   rw [if_neg (by omega)] at hu
                   exact (hrep2 _ _ _ hc' hu).mono hR hι))
           exact ⟨_, ι', run hb hfz hlen hle2, hrel⟩
         · cases h
       · cases h
     · cases h
   · cases h
   · cases h
 · cases h
end
end Go.Ua
