/- The library of this claim and its walks, part 9, joined out of smaller texts. No statement stands in it. -/
import Derived.Test.YtpmpajodihpkaaaGreatDoorUaM8
import Derived.Lib.AppendStr
set_option linter.unusedSimpArgs false
set_option linter.unusedVariables false
namespace Go.Ua
open Go
section
variable {X L : Nat → Prop} {w0 : W0} {w w' : World} {nt : Nat} {ι : Io} {S : St} {a : Act} {P : Program} {τ : Tab} {R : Rd}
def srcOf (S : St) (x : AV) : Option (Nat × List Dat) := match x with
 | .d (.view k es) => some (k, es)
 | .row n k => (match look n S.h with
   | some (.ds _ k' es) => if k = k' then some (k, es) else none
   | _ => none)
 | _ => none
theorem src_rep (H : HRel X L w0 ι S.h S.fr w) {x : AV} {v : Value} {k : Nat} {es : List Dat} (hx : RepV (rdOf L ι S.h w) ι x v) (h : srcOf S x = some (k, es)) :
   ∃ (ad : Option Addr) (c : Nat), v = .slice ad es.length c ∧ (∀ (i : Nat) (e : Dat), es[i]? = some e → e.cells.length = k) ∧
     (es ≠ [] → ∃ (ab : Addr) (news : List Value), ad = some ab ∧ news.length = es.length * k ∧ (∀ (j : Nat) (u : Value), news[j]? = some u → w.cell? (ab.add j) = some u) ∧ (∀ u ∈ news, u.oneCell' = true) ∧
       ∀ (i : Nat) (e : Dat) (j : Nat) (d : Dat) (u : Value), es[i]? = some e → e.cells[j]? = some d → news[i * k + j]? = some u → RepD (rdOf L ι S.h w) d u) := by
 unfold srcOf at h
 split at h
 · rename_i k' es'
   simp only [Option.some.injEq, Prod.mk.injEq] at h
   obtain ⟨rfl, rfl⟩ := h
   cases rep_d hx with
   | nil => exact ⟨none, 0, rfl, by simp, fun h => absurd rfl h⟩
   | view _ _ ad cap f hc hmx0 hsp hk hr hrep =>
     refine ⟨some ad, cap, rfl, hk, fun hne => ?_⟩
     have hspn := hsp hne
     obtain ⟨ab, ao, asp⟩ := ad
     simp only at hspn
     subst hspn
     have hk0 : 0 < k' ∨ k' = 0 := by omega
     have key : ∀ j, j < es'.length * k' → ∃ e c, es'[j / k']? = some e ∧ e.cells[j % k']? = some c ∧ j = (j / k') * k' + j % k' := by
       intro j hj
       have hk0 : 0 < k' := by
         rcases hk0 with h | h
         · exact h
         · subst h; simp at hj
       have h1 : j / k' < es'.length := Nat.div_lt_of_lt_mul (by rw [Nat.mul_comm]; exact hj)
       have h2 : j % k' < k' := Nat.mod_lt _ hk0
       have h3 := hk _ _ (List.getElem?_eq_getElem h1)
       exact ⟨_, _, List.getElem?_eq_getElem h1, List.getElem?_eq_getElem (by rw [h3]; exact h2), by rw [Nat.mul_comm]; exact (Nat.div_add_mod j k').symm⟩
     refine ⟨⟨ab, ao, none⟩, (List.range (es'.length * k')).map fun j => f (j / k') (j % k'), rfl, by simp, fun j u hu => ?_, fun u hu => ?_, fun i e j d u he hd hu => ?_⟩
     · rw [List.getElem?_map, Option.map_eq_some_iff] at hu
       obtain ⟨j', hj', rfl⟩ := hu
       obtain ⟨hlt, rfl⟩ := List.getElem?_eq_some_iff.1 hj'
       simp only [List.length_range] at hlt
       simp only [List.getElem_range]
       obtain ⟨e, c, he, hc', hj⟩ := key j hlt
       have := (hr _ _ _ _ he hc').2.1
       rw [Addr.add_lit]
       simp only at this
       rw [show ao + j = ao + j / k' * k' + j % k' by omega]
       exact this
     · simp only [List.mem_map, List.mem_range] at hu
       obtain ⟨j, hj, rfl⟩ := hu
       obtain ⟨e, c, he, hc', _⟩ := key j hj
       exact (hr _ _ _ _ he hc').2.2
     · rw [List.getElem?_map, Option.map_eq_some_iff] at hu
       obtain ⟨j', hj', rfl⟩ := hu
       obtain ⟨hlt, rfl⟩ := List.getElem?_eq_some_iff.1 hj'
       simp only [List.getElem_range]
       have hjk : j < k' := by rw [← hk i e he]; exact (List.getElem?_eq_some_iff.1 hd).1
       have e1 : (i * k' + j) / k' = i := by rw [Nat.mul_comm, Nat.mul_add_div (by omega), Nat.div_eq_of_lt hjk]; rfl
       have e2 : (i * k' + j) % k' = j := by rw [Nat.mul_comm, Nat.mul_add_mod, Nat.mod_eq_of_lt hjk]
       rw [e1, e2]
       exact hrep _ _ _ _ he hd
 · rename_i n k'
   split at h
   · rename_i E k2 es2 hlook
     split at h
     · rename_i hk2
       subst hk2
       simp only [Option.some.injEq, Prod.mk.injEq] at h
       obtain ⟨rfl, rfl⟩ := h
       cases H.hp n _ hlook with
       | ds0 _ _ hi =>
         cases hx with
         | row _ _ b cap len hi' => rw [hi] at hi'; cases hi'
         | row0 _ _ a0 hi' => exact ⟨a0, 0, rfl, by simp, fun h => absurd rfl h⟩
       | ds _ _ _ b cap cur hi hb hl hc hm hk0 hkk h1 hrep =>
         obtain ⟨fz, hb, hfz⟩ := hb
         cases hx with
         | row0 _ _ a0 hi' => rw [hi] at hi'; cases hi'
         | row _ _ b' cap' len hi' =>
           rw [hi] at hi'; cases hi'
           have hle : es2.length * k' ≤ cap * k' := Nat.mul_le_mul_right k' hc
           refine ⟨_, cap, rfl, hkk, fun hne => ⟨⟨b, 0, none⟩, cur.take (es2.length * k'), rfl, by simp; omega, fun j u hu => ?_, h1, fun i e j d u he hd hu => ?_⟩⟩
           · rw [List.getElem?_take] at hu
             split at hu
             · rw [Addr.add_lit, Nat.zero_add, cell_of_row w b _ _ _ _ hb]
               simpa using hu
             · cases hu
           · rw [List.getElem?_take] at hu
             split at hu
             · exact hrep i e j d u he hd hu
             · cases hu
     · cases h
   · cases h
 · cases h
theorem run_append_zero {t ty e : TypeId} {i : TypeInfo} (ht : P.underlying t = some (.slice e)) (hi : P.info? e = some i) (base ad : Option Addr) (n cap c : Nat) (hn : n ≤ cap) :
   (Builtin.append_ #[t, t] ty #[.slice base n cap, .slice ad 0 c]).run P w = .ok (.slice base n cap) w := by
 have h1 : ∀ ad, (Builtin.firstCells i.size 0 (.slice ad 0 c)).run P w = .ok #[] w := by
   intro ad
   cases ad <;> simp [Builtin.firstCells, loadCells, loadCellsFrom]
 cases base <;> simp [Builtin.append_, run_underlying ht, sizeOf, typeInfo, hi, Builtin.lenOf, hn, h1, storeCells]
theorem run_append_room_fz (t ty e : TypeId) (i : TypeInfo) (ht : P.underlying t = some (.slice e)) (hi : P.info? e = some i)
   (g sLen sCap : Nat) (cur : Array Value) (fz : Nat × Nat) (hg : w.heap[g]? = some (.cells cur e fz)) (hfz : FzOK fz cur.size)
   (a : Addr) (m c : Nat) (news : List Value) (hl : news.length = m * i.size) (hnews : ∀ (j : Nat) (u : Value), news[j]? = some u → w.cell? (a.add j) = some u) (h1 : ∀ u ∈ news, u.oneCell' = true)
   (hroom : sLen + m ≤ sCap) (hfit : sLen * i.size + news.length ≤ cur.size) :
   (Builtin.append_ #[t, t] ty #[.slice (some ⟨g, 0, none⟩) sLen sCap, .slice (some a) m c]).run P w =
     .ok (.slice (some ⟨g, 0, none⟩) (sLen + m) sCap) (w.setRow g (cur.toList.take (sLen * i.size) ++ news ++ cur.toList.drop (sLen * i.size + news.length)).toArray) := by
 have hf := run_firstCells_some (P := P) w i.size m a m c news hl hnews
 have hst := run_storeCells_fz P g (sLen * i.size) e fz news 0 cur w hg hfz (by simpa using hfit) h1
 simp only [Nat.add_zero] at hst
 simp [Builtin.append_, run_underlying ht, sizeOf, typeInfo, hi, Builtin.lenOf, hroom, hf, Addr.add_lit, hst]
def appG (A : Ar) (S : St) (e : TypeId) (y : Ty) (es2 : List Dat) (s : AV) : Option (AV × St) := match s with
 | .row n k0 => (match look n S.h with
   | some (.ds E k1 es) => if E = e ∧ k1 = y.size ∧ k0 = y.size then (match A.fits y.bytes (A.appD es es2) with
     | true => some (.row S.fr y.size, S.rep n (.ds e y.size (A.appD es es2)))
     | false => none) else none
   | _ => none)
 | .d (.s .sl0) => (match A.fits y.bytes es2 with
   | true => some (.row S.fr y.size, S.new (.ds e y.size es2))
   | false => none)
 | .nul => (match A.fits y.bytes es2 with
   | true => some (.row S.fr y.size, S.new (.ds e y.size es2))
   | false => none)
 | _ => none
def appendOp (A : Ar) (τ : Tab) (S : St) (t1 t2 : TypeId) (s x : AV) : Option (AV × St) :=
 match kindOf τ t1 with
 | .slice e => (match look e τ with
   | some y => (match okZero y && (y.size != 0 && y.bytes != 0) with
     | true => (match Nat.beq t1 t2 with
       | true => (match srcOf S x with
         | some (k, es2) => if k = y.size then appG A S e y es2 s else none
         | none => none)
       | false => (match kindOf τ t2, kindOf τ e, x, Nat.beq y.size 1 with
         | .string, .int .u8, .d (.s (.str l)), true => appG A S e y (A.bytesD l) s
         | _, _, _, _ => none))
     | false => none)
   | none => none)
 | _ => none
structure AppSrc (P : Program) (w : World) (t1 t2 ty e : TypeId) (ie : TypeInfo) (z : Value) (k : Nat) (R : Rd) (es2 : List Dat) (xv : Value) : Prop where
 zero : es2 = [] → ∀ (base : Option Addr) (n cap : Nat), n ≤ cap → (Builtin.append_ #[t1, t2] ty #[.slice base n cap, xv]).run P w = .ok (.slice base n cap) w
 more : es2 ≠ [] → ∃ news : List Value, news.length = es2.length * k ∧ (∀ u ∈ news, u.oneCell' = true) ∧
   (∀ (i : Nat) (x : Dat) (j : Nat) (d : Dat) (u : Value), es2[i]? = some x → x.cells[j]? = some d → news[i * k + j]? = some u → RepD R d u) ∧
   ((es2.length : Int) ≤ 9223372036854775807 → es2.length * ie.bytes ≤ 281474976710656 →
     (Builtin.append_ #[t1, t2] ty #[.slice none 0 0, xv]).run P w = .ok (.slice (some ⟨w.heap.size, 0, none⟩) es2.length (grownCap w es2.length 0 e))
       (w.drew.alloc (.cells (news.toArray ++ Builtin.zeroCells z.cells (grownCap w es2.length 0 e - es2.length)) e))) ∧
   (∀ (g sLen sCap : Nat) (cur : Array Value) (fz : Nat × Nat), w.heap[g]? = some (.cells cur e fz) → FzOK fz cur.size → sLen + es2.length ≤ sCap → sLen * k + news.length ≤ cur.size →
     (Builtin.append_ #[t1, t2] ty #[.slice (some ⟨g, 0, none⟩) sLen sCap, xv]).run P w =
       .ok (.slice (some ⟨g, 0, none⟩) (sLen + es2.length) sCap) (w.setRow g (cur.toList.take (sLen * k) ++ news ++ cur.toList.drop (sLen * k + news.length)).toArray)) ∧
   ∀ (b : Addr) (sLen sCap : Nat) (olds : List Value), olds.length = sLen * k → (∀ (j : Nat) (v : Value), olds[j]? = some v → w.cell? (b.add j) = some v) → sCap < sLen + es2.length →
     ((sLen + es2.length : Nat) : Int) ≤ 9223372036854775807 → Builtin.nextslicecap (sLen + es2.length) sCap * ie.bytes ≤ 281474976710656 →
     (Builtin.append_ #[t1, t2] ty #[.slice (some b) sLen sCap, xv]).run P w =
       .ok (.slice (some ⟨w.heap.size, 0, none⟩) (sLen + es2.length) (grownCap w (sLen + es2.length) sCap e))
         (w.drew.alloc (.cells (olds.toArray ++ news.toArray ++ Builtin.zeroCells z.cells (grownCap w (sLen + es2.length) sCap e - (sLen + es2.length))) e))
theorem Rel.fresh (H : Rel X L w0 nt ι S a w) {n0 : Option Nat} {loc : Loc} {B : Blk} {z : AV} {v : Value}
   (hheap : ∀ b, b < w.heap.size → (∀ n c l, n0 = some n → (look n S.h).isSome = true → ι n ≠ some (.blk b c l)) → w'.heap[b]? = w.heap[b]?)
   (hloc : ∀ b c l, loc = .blk b c l → w.heap.size ≤ b ∨ ∃ n c l, n0 = some n ∧ (look n S.h).isSome = true ∧ ι n = some (.blk b c l))
   (hos : w'.os = w.os) (htape : w'.tape = w.tape) (hout : w'.output = w.output) (hsize : w.heap.size ≤ w'.heap.size)
   (hB : ∀ (R' : Rd) (ι' : Io), (∀ b o v, rdOf L ι S.h w b o v → R' b o v) → (∀ n p, ι n = some p → ι' n = some p) → ι' S.fr = some loc → RepB R' ι' w' S.fr B)
   (hz : ∀ (R' : Rd) (ι' : Io), ι' S.fr = some loc → RepV R' ι' z v) :
   ∃ ι', Rel X L w0 nt ι' ⟨S.t, (S.fr, B) :: dels n0 S.h, S.fr + 1⟩ a w' ∧ RepV (rdOf L ι' ((S.fr, B) :: dels n0 S.h) w') ι' z v := by
 have := H.change (w' := w') (n0 := n0) (m := S.fr) (fr' := S.fr + 1) (loc := loc) (B := B) ⟨by omega, by omega⟩ (.inl (H.hr.fresh _ (Nat.le_refl _))) hheap hloc hos htape hout hsize
   (fun hR hι => hB _ _ hR hι (by simp [upd]))
 exact ⟨_, this.1, hz _ _ (by simp [upd])⟩
theorem grow_row {e : TypeId} {k : Nat} {es es2 : List Dat} {olds news tail : List Value} {need g cap : Nat} {R' : Rd} {ι' : Io} {w' : World} {b : Nat}
   (hι : ι' g = some (.blk b cap (es ++ es2).length)) (hb : rowAt w' b (olds ++ (news ++ tail)) e)
   (hneed : need = es.length + es2.length) (hcap : need ≤ cap) (hmax : cap ≤ maxLen) (hk0 : 0 < k) (htl : tail.length = (cap - need) * k)
   (hol : olds.length = es.length * k) (hnl : news.length = es2.length * k)
   (ho1 : ∀ u ∈ olds, u.oneCell' = true) (hn1 : ∀ u ∈ news, u.oneCell' = true)
   (hke : ∀ (i : Nat) (x : Dat), es[i]? = some x → x.cells.length = k) (hke2 : ∀ (i : Nat) (x : Dat), es2[i]? = some x → x.cells.length = k)
   (hor : ∀ (i : Nat) (x : Dat) (j : Nat) (d : Dat) (u : Value), es[i]? = some x → x.cells[j]? = some d → olds[i * k + j]? = some u → RepD R' d u)
   (hnr : ∀ (i : Nat) (x : Dat) (j : Nat) (d : Dat) (u : Value), es2[i]? = some x → x.cells[j]? = some d → news[i * k + j]? = some u → RepD R' d u) :
   RepB R' ι' w' g (.ds e k (es ++ es2)) := by
 have hol2 : (olds ++ news).length = (es ++ es2).length * k := by simp [hol, hnl, Nat.add_mul]
 refine .ds e k _ b cap _ hι hb ?_ (by simp; omega) hmax hk0 (fun i x hx => ?_) (fun u hu => ?_) (fun i x j d u hx hd hu => ?_)
 · simp only [List.length_append, hol, hnl, htl]
   rw [← Nat.add_mul, ← Nat.add_mul]
   congr 1
   omega
 · rcases Nat.lt_or_ge i es.length with h | h
   · rw [List.getElem?_append_left h] at hx; exact hke i x hx
   · rw [List.getElem?_append_right h] at hx; exact hke2 _ x hx
 · rw [← List.append_assoc, ← hol2, List.take_left] at hu
   rcases List.mem_append.1 hu with h | h
   · exact ho1 u h
   · exact hn1 u h
 · rcases Nat.lt_or_ge i es.length with h | h
   · rw [List.getElem?_append_left h] at hx
     have hjk : j < k := by rw [← hke i x hx]; exact (List.getElem?_eq_some_iff.1 hd).1
     have := mul_lt (k := k) h
     rw [List.getElem?_append_left (by omega)] at hu
     exact hor i x j d u hx hd hu
   · rw [List.getElem?_append_right h] at hx
     have hjk : j < k := by rw [← hke2 _ x hx]; exact (List.getElem?_eq_some_iff.1 hd).1
     have hi2 : i - es.length < es2.length := (List.getElem?_eq_some_iff.1 hx).1
     have h2 := mul_lt (k := k) hi2
     have h3 : i * k = es.length * k + (i - es.length) * k := by rw [← Nat.add_mul]; congr 1; omega
     rw [List.getElem?_append_right (by omega), hol, List.getElem?_append_left (by omega)] at hu
     rw [show i * k + j - es.length * k = (i - es.length) * k + j by omega] at hu
     exact hnr _ x j d u hx hd hu
theorem append_gen (H : Rel X L w0 nt ι S a w) {t1 t2 ty e : TypeId} {y : Ty} {ie : TypeInfo} {es2 : List Dat} {s z : AV} {sv xv : Value} {S' : St} (hs : RepV (rdOf L ι S.h w) ι s sv)
   (hie : P.info? e = some ie) (hse : ie.size = y.size) (hbe : ie.bytes = y.bytes) (hzl : y.zero.length = y.size) (hz : okZero y = true ∧ ¬y.size = 0 ∧ ¬y.bytes = 0)
   (hke2 : ∀ (i : Nat) (x : Dat), es2[i]? = some x → x.cells.length = y.size)
   (G : AppSrc P w t1 t2 ty e ie y.zval y.size (rdOf L ι S.h w) es2 xv) (h : appG Ar.real S e y es2 s = some (z, S')) :
   ∃ v w' ι', (Builtin.append_ #[t1, t2] ty #[sv, xv]).run P w = .ok v w' ∧ Rel X L w0 nt ι' S' a w' ∧ RepV (rdOf L ι' S'.h w') ι' z v := by
 have hzo := okZero_or hz.1
 have hzc : y.zval.cells.size = y.size := by rw [zval_cells y hzo]; simp [hzl]
 have hk0 : 0 < y.size := Nat.pos_of_ne_zero hz.2.1
 have hfit : ∀ {l : List Dat}, Ar.real.fits y.bytes l = true → l.length ≤ maxLen ∧ (l.length : Int) ≤ 9223372036854775807 ∧ l.length * ie.bytes ≤ 140737488355328 := by
   intro l hl
   simp only [Ar.real, decide_eq_true_eq] at hl
   have h1 := Nat.le_mul_of_pos_right l.length (Nat.pos_of_ne_zero hz.2.2)
   simp only [maxLen]
   rw [hbe]
   omega
 unfold appG at h
 have fromNil : ∀ (a0 : Option Addr) (n0 : Option Nat), Ar.real.fits y.bytes es2 = true → sv = .slice a0 0 0 →
     ∃ v w' ι', (Builtin.append_ #[t1, t2] ty #[sv, xv]).run P w = .ok v w' ∧ Rel X L w0 nt ι' ⟨S.t, (S.fr, .ds e y.size es2) :: dels n0 S.h, S.fr + 1⟩ a w' ∧
       RepV (rdOf L ι' ((S.fr, .ds e y.size es2) :: dels n0 S.h) w') ι' (.row S.fr y.size) v := by
   intro a0 n0 hf hsv
   subst hsv
   obtain ⟨hf1, hf2, hf3⟩ := hfit hf
   by_cases h0 : es2 = []
   · subst h0
     obtain ⟨ι', h1, h2⟩ := H.fresh (w' := w) (n0 := n0) (loc := .nil) (B := .ds e y.size []) (z := .row S.fr y.size) (v := .slice a0 0 0) (fun b _ _ => rfl) (fun b c l h => by cases h) rfl rfl rfl (Nat.le_refl _)
       (fun R' ι' hR hι hi => .ds0 _ _ hi hk0) (fun R' ι' hi => .row0 _ _ _ hi)
     exact ⟨_, w, ι', G.zero rfl a0 0 0 (Nat.le_refl _), h1, h2⟩
   · obtain ⟨news, hnl, hn1, hnr, gnil, groom, ggrow⟩ := G.more h0
     have hpos : 0 < es2.length := List.length_pos_iff.2 h0
     have run : (Builtin.append_ #[t1, t2] ty #[.slice a0 0 0, xv]).run P w =
         .ok (.slice (some ⟨w.heap.size, 0, none⟩) es2.length (grownCap w es2.length 0 e))
           (w.drew.alloc (.cells (([] : List Value) ++ (news ++ (Builtin.zeroCells y.zval.cells (grownCap w es2.length 0 e - es2.length)).toList)).toArray e)) := by
       have hcells : (([] : List Value) ++ (news ++ (Builtin.zeroCells y.zval.cells (grownCap w es2.length 0 e - es2.length)).toList)).toArray = news.toArray ++ Builtin.zeroCells y.zval.cells (grownCap w es2.length 0 e - es2.length) := by
         apply Array.ext'; simp
       rw [hcells]
       cases a0 with
       | none => exact gnil hf2 (by omega)
       | some b0 =>
         have := ggrow b0 0 0 [] (by simp) (by simp) (by omega) (by simpa using hf2) (growslice_fits (by omega) (by simpa using hf3))
         simpa using this
     have hge := grownCap_ge w es2.length 0 e
     have hcm := grownCap_le_maxLen w es2.length 0 e hf1
     obtain ⟨ι', h1, h2⟩ := H.fresh (w' := w.drew.alloc (.cells (([] : List Value) ++ (news ++ (Builtin.zeroCells y.zval.cells (grownCap w es2.length 0 e - es2.length)).toList)).toArray e)) (n0 := n0)
       (loc := .blk w.heap.size (grownCap w es2.length 0 e) es2.length) (B := .ds e y.size es2) (z := .row S.fr y.size) (v := .slice (some ⟨w.heap.size, 0, none⟩) es2.length (grownCap w es2.length 0 e))
       (fun b hb _ => heap_alloc_old w.drew _ b hb) (fun b c l h => by cases h; exact .inl (Nat.le_refl _)) rfl rfl rfl (by simp)
       (fun R' ι' hR hι hi => by
         have := grow_row (R' := R') (ι' := ι') (e := e) (k := y.size) (es := []) (es2 := es2) (olds := []) (news := news) (need := es2.length) (g := S.fr) (b := w.heap.size) (by simpa using hi)
           (.of (heap_alloc_new w.drew _)) (by simp) hge hcm hk0 (by rw [Array.length_toList, size_zeroCells, hzc]) (by simp) hnl (by simp) hn1 (by simp) hke2 (by simp)
           (fun i x j d u hx hd hu => (hnr i x j d u hx hd hu).mono hR)
         simpa using this)
       (fun R' ι' hi => .row _ _ _ _ _ hi)
     exact ⟨_, _, ι', run, h1, h2⟩
 split at h
 · rename_i n k0
   split at h
   · rename_i E k1 es hlook
     split at h
     · rename_i hc
       obtain ⟨rfl, rfl, rfl⟩ := hc
       split at h
       · rename_i hf
         simp only [Option.some.injEq, Prod.mk.injEq] at h
         obtain ⟨rfl, rfl⟩ := h
         obtain ⟨hf1, hf2, hf3⟩ := hfit hf
         simp only [Ar.real, List.length_append] at hf1 hf2 hf3
         cases H.hr.hp n _ hlook with
         | ds0 _ _ hi =>
           cases hs with
           | row _ _ b cap len hi' => rw [hi] at hi'; cases hi'
           | row0 _ _ a0 hi' =>
             have := fromNil a0 (some n) (by simpa [Ar.real] using hf) rfl
             exact this
         | ds _ _ _ b cap cur hi hb hl hcap hmx hk0' hkk h1 hrep =>
           have hb0 := hb
           obtain ⟨fz, hb, hfz⟩ := hb
           cases hs with
           | row0 _ _ a0 hi' => rw [hi] at hi'; cases hi'
           | row _ _ b' cap' len hi' =>
             rw [hi] at hi'; cases hi'
             have hnle : es.length * y.size ≤ cap * y.size := Nat.mul_le_mul_right y.size hcap
             have hother : ∀ b', b' < w.heap.size → (∀ n' c l, some n = some n' → (look n' S.h).isSome = true → ι n' ≠ some (.blk b' c l)) → b' ≠ b :=
               fun b' _ hne e => hne n cap es.length rfl (by rw [hlook]; rfl) (by rw [e]; exact hi)
             by_cases h0 : es2 = []
             · subst h0
               obtain ⟨ι', h2, h3⟩ := H.fresh (w' := w) (n0 := some n) (loc := .blk b cap es.length) (B := .ds E y.size es) (z := .row S.fr y.size) (v := .slice (some ⟨b, 0, none⟩) es.length cap) (fun b _ _ => rfl)
                 (fun b' c' l' h => by cases h; exact .inr ⟨n, cap, es.length, rfl, by rw [hlook]; rfl, hi⟩) rfl rfl rfl (Nat.le_refl _)
                 (fun R' ι' hR hι hi2 => .ds E y.size es b cap cur hi2 hb0 hl hcap hmx hk0' hkk h1 (fun i x j d u hx hd hu => (hrep i x j d u hx hd hu).mono hR)) (fun R' ι' hi2 => .row _ _ _ _ _ hi2)
               have hnil : es ++ [] = es := List.append_nil es
               refine ⟨_, w, ι', G.zero rfl _ es.length cap hcap, ?_, ?_⟩
               · simpa [Ar.real, St.rep, dels] using h2
               · simpa [Ar.real, St.rep, dels] using h3
             · obtain ⟨news, hnl, hn1, hnr, gnil, groom, ggrow⟩ := G.more h0
               have hpos : 0 < es2.length := List.length_pos_iff.2 h0
               by_cases hroom : es.length + es2.length ≤ cap
               · have hrl : (es.length + es2.length) * y.size ≤ cap * y.size := Nat.mul_le_mul_right y.size hroom
                 rw [Nat.add_mul] at hrl
                 have run := groom b es.length cap cur.toArray fz hb (by simpa using hfz) hroom (by simp; omega)
                 have hcur : ((cur.toArray.toList.take (es.length * y.size) ++ news ++ cur.toArray.toList.drop (es.length * y.size + news.length)).toArray) =
                     (cur.take (es.length * y.size) ++ (news ++ cur.drop (es.length * y.size + news.length))).toArray := by
                   simp
                 rw [hcur] at run
                 obtain ⟨ι', h2, h3⟩ := H.fresh (w' := w.setRow b (cur.take (es.length * y.size) ++ (news ++ cur.drop (es.length * y.size + news.length))).toArray) (n0 := some n) (loc := .blk b cap (es ++ es2).length) (B := .ds E y.size (es ++ es2))
                   (z := .row S.fr y.size) (v := .slice (some ⟨b, 0, none⟩) (es.length + es2.length) cap)
                   (fun b' hb' hne => setRow_other w b b' _ (hother b' hb' hne))
                   (fun b' c' l' h => by cases h; exact .inr ⟨n, cap, es.length, rfl, by rw [hlook]; rfl, hi⟩) rfl rfl rfl (by simp)
                   (fun R' ι' hR hι hi2 => grow_row (need := es.length + es2.length) hi2 ⟨fz, setRow_heap w b _ _ E _ hb, by rw [show (cur.take (es.length * y.size) ++ (news ++ cur.drop (es.length * y.size + news.length))).length = cur.length by simp; omega]; exact hfz⟩ rfl hroom hmx hk0'
                     (by simp [hnl, hl, Nat.sub_mul, Nat.add_mul]) (by simp; omega) hnl h1 hn1 hkk hke2
                     (fun i x j d u hx hd hu => by
                       rw [List.getElem?_take] at hu
                       split at hu
                       · exact (hrep i x j d u hx hd hu).mono hR
                       · cases hu) (fun i x j d u hx hd hu => (hnr i x j d u hx hd hu).mono hR))
                   (fun R' ι' hi2 => by
                     have := RepV.row (R := R') (ι := ι') S.fr y.size b cap _ hi2
                     simpa using this)
                 exact ⟨_, _, ι', run, h2, h3⟩
               · have holds : ∀ (j : Nat) (u : Value), (cur.take (es.length * y.size))[j]? = some u → w.cell? ((⟨b, 0, none⟩ : Addr).add j) = some u := by
                   intro j u hu
                   rw [List.getElem?_take] at hu
                   split at hu
                   · rw [Addr.add_lit, Nat.zero_add, cell_of_row w b _ _ _ _ hb]
                     simpa using hu
                   · cases hu
                 have holen : (cur.take (es.length * y.size)).length = es.length * y.size := by simp; omega
                 have run := ggrow ⟨b, 0, none⟩ es.length cap (cur.take (es.length * y.size)) holen holds (by omega) (by simpa using hf2) (growslice_fits (by omega) hf3)
                 have hcur : ((cur.take (es.length * y.size)).toArray ++ news.toArray ++ Builtin.zeroCells y.zval.cells (grownCap w (es.length + es2.length) cap E - (es.length + es2.length))) =
                     (cur.take (es.length * y.size) ++ (news ++ (Builtin.zeroCells y.zval.cells (grownCap w (es.length + es2.length) cap E - (es.length + es2.length))).toList)).toArray := by
                   apply Array.ext'; simp
                 rw [hcur] at run
                 have hge := grownCap_ge w (es.length + es2.length) cap E
                 have hcm := grownCap_le_maxLen w (es.length + es2.length) cap E hf1
                 obtain ⟨ι', h2, h3⟩ := H.fresh (w' := w.drew.alloc (.cells (cur.take (es.length * y.size) ++ (news ++ (Builtin.zeroCells y.zval.cells (grownCap w (es.length + es2.length) cap E - (es.length + es2.length))).toList)).toArray E)) (n0 := some n)
                   (loc := .blk w.heap.size (grownCap w (es.length + es2.length) cap E) (es ++ es2).length) (B := .ds E y.size (es ++ es2)) (z := .row S.fr y.size)
                   (v := .slice (some ⟨w.heap.size, 0, none⟩) (es.length + es2.length) (grownCap w (es.length + es2.length) cap E))
                   (fun b' hb' _ => heap_alloc_old w.drew _ b' hb') (fun b' c' l' h => by cases h; exact .inl (Nat.le_refl _)) rfl rfl rfl (by simp)
                   (fun R' ι' hR hι hi2 => grow_row (need := es.length + es2.length) hi2 (.of (heap_alloc_new w.drew _)) rfl hge hcm hk0'
                     (by rw [Array.length_toList, size_zeroCells, hzc]) holen hnl h1 hn1 hkk hke2
                     (fun i x j d u hx hd hu => by
                       rw [List.getElem?_take] at hu
                       split at hu
                       · exact (hrep i x j d u hx hd hu).mono hR
                       · cases hu) (fun i x j d u hx hd hu => (hnr i x j d u hx hd hu).mono hR))
                   (fun R' ι' hi2 => by
                     have := RepV.row (R := R') (ι := ι') S.fr y.size _ _ _ hi2
                     simpa using this)
                 exact ⟨_, _, ι', run, h2, h3⟩
       · cases h
     · cases h
   · cases h
 · split at h
   · rename_i hf
     simp only [Option.some.injEq, Prod.mk.injEq] at h
     obtain ⟨rfl, rfl⟩ := h
     have := fromNil none none hf (rep_s hs)
     exact this
   · cases h
 · split at h
   · rename_i hf
     simp only [Option.some.injEq, Prod.mk.injEq] at h
     obtain ⟨rfl, rfl⟩ := h
     obtain ⟨a0, ha0⟩ : ∃ a0, sv = .slice a0 0 0 := by cases hs; exact ⟨_, rfl⟩
     have := fromNil a0 none hf ha0
     exact this
   · cases h
 · cases h
theorem strCells_eq (l : List UInt8) : Lib.strCells ⟨l.toArray⟩ = l.map fun b => Value.int .u8 b.toNat := by simp [Lib.strCells]
theorem run_append_room_str_fz (t u ty e : TypeId) (i : TypeInfo) (ht : P.underlying t = some (.slice e)) (hu : P.underlying u = some .string) (hi : P.info? e = some i) (hs1 : i.size = 1)
   (g sLen sCap : Nat) (cur : Array Value) (fz : Nat × Nat) (hg : w.heap[g]? = some (.cells cur e fz)) (hfz : FzOK fz cur.size) (s : ByteArray)
   (hroom : sLen + s.size ≤ sCap) (hfit : sLen + s.size ≤ cur.size) :
   (Builtin.append_ #[t, u] ty #[.slice (some ⟨g, 0, none⟩) sLen sCap, .string s]).run P w =
     .ok (.slice (some ⟨g, 0, none⟩) (sLen + s.size) sCap) (w.setRow g (cur.toList.take sLen ++ Lib.strCells s ++ cur.toList.drop (sLen + s.size)).toArray) := by
 have hf := Lib.run_firstCells_string (P := P) w 1 s
 have hst := run_storeCells_fz P g sLen e fz (Lib.strCells s) 0 cur w hg hfz (by simpa [Lib.strCells_length] using hfit) (Lib.strCells_oneCell s)
 simp only [Nat.add_zero, Lib.strCells_length] at hst
 simp [Builtin.append_, run_underlying ht, run_underlying hu, sizeOf, typeInfo, hi, hs1, Builtin.lenOf, hroom, hf, Addr.add_lit, hst]
theorem run_append_zero_str (t u ty e : TypeId) (i : TypeInfo) (ht : P.underlying t = some (.slice e)) (hu : P.underlying u = some .string) (hi : P.info? e = some i) (base : Option Addr) (n cap : Nat) (hn : n ≤ cap) :
   (Builtin.append_ #[t, u] ty #[.slice base n cap, .string ⟨#[]⟩]).run P w = .ok (.slice base n cap) w := by
 have h1 : (Builtin.firstCells i.size 0 (.string ⟨#[]⟩)).run P w = .ok #[] w := by
   have := Lib.run_firstCells_string (P := P) w i.size ⟨#[]⟩
   rw [show Lib.strCells ⟨#[]⟩ = [] from rfl] at this
   exact this
 have h0 : (ByteArray.mk #[]).size = 0 := rfl
 cases base <;> simp [Builtin.append_, run_underlying ht, run_underlying hu, sizeOf, typeInfo, hi, Builtin.lenOf, hn, h0, h1, storeCells]
theorem str_app {R : Rd} {t1 t2 ty e : TypeId} {ie : TypeInfo} {z : Value} {k : Nat} (ht : P.underlying t1 = some (.slice e)) (hu : P.underlying t2 = some .string) (hie : P.info? e = some ie) (hs1 : ie.size = 1) (hze : ie.zero = some z) (hk : k = 1) (l : List UInt8) :
   AppSrc P w t1 t2 ty e ie z k R (Ar.real.bytesD l) (Sc.str l).val := by
 subst hk
 have hlen : (Ar.real.bytesD l).length = l.length := by simp [Ar.real]
 have hsz : (ByteArray.mk l.toArray).size = l.length := str_size l
 refine ⟨fun h0 base n cap hn => ?_, fun h0 => ?_⟩
 · have : l = [] := by simpa [Ar.real] using h0
   subst this
   exact run_append_zero_str t1 t2 ty e ie ht hu hie base n cap hn
 · have hpos : 0 < l.length := by
     have := List.length_pos_iff.2 h0
     omega
   refine ⟨l.map fun b => Value.int .u8 b.toNat, by simp [Ar.real], fun u hu => ?_, fun i x j d u hx hd hu => ?_, fun h1 h2 => ?_, fun g sLen sCap cur fz hg hfz hroom hfit => ?_, fun b sLen sCap olds ho hold hlt h1 h2 => ?_⟩
   · simp only [List.mem_map] at hu
     obtain ⟨b, _, rfl⟩ := hu
     rfl
   · simp only [Ar.real, List.getElem?_map, Option.map_eq_some_iff] at hx
     obtain ⟨b, hb, rfl⟩ := hx
     cases j with
     | zero =>
       simp only [Dat.cells, List.getElem?_cons_zero, Option.some.injEq] at hd
       subst hd
       simp only [Nat.mul_one, Nat.add_zero, List.getElem?_map, hb, Option.map_some, Option.some.injEq] at hu
       subst hu
       exact .s (.int .u8 _) (ok_byte b)
     | succ j => simp [Dat.cells] at hd
   · rw [hlen] at h1 h2 ⊢
     have := run_append_nil_string (P := P) w t1 t2 ty e ie z ht hu hie hze ⟨l.toArray⟩ (by rw [hsz]; exact hpos) (by rw [hsz]; exact h1) (by rw [hsz]; exact h2)
     rw [hsz] at this
     simpa [Sc.val] using this
   · rw [hlen] at hroom ⊢
     have := run_append_room_str_fz (P := P) (w := w) t1 t2 ty e ie ht hu hie hs1 g sLen sCap cur fz hg hfz ⟨l.toArray⟩ (by rw [hsz]; exact hroom) (by rw [hsz]; simpa using hfit)
     rw [hsz, strCells_eq] at this
     simpa [Sc.val] using this
   · rw [hlen] at hlt h1 h2 ⊢
     have := Lib.run_append_grow_string (P := P) w t1 t2 ty e ie z ht hu hie hze b sLen sCap olds (by rw [hs1]; exact ho) hold ⟨l.toArray⟩ (by rw [hsz]; exact hlt) (by rw [hsz]; exact h1) (by rw [hsz]; exact h2)
     rw [hsz, strCells_eq] at this
     exact this
theorem src_app {R : Rd} {t1 ty e : TypeId} {ie : TypeInfo} {z : Value} {k : Nat} {es2 : List Dat} {ad : Option Addr} {c : Nat} (hu : P.underlying t1 = some (.slice e)) (hie : P.info? e = some ie) (hse : ie.size = k) (hze : ie.zero = some z)
   (hnews : es2 ≠ [] → ∃ (ab : Addr) (news : List Value), ad = some ab ∧ news.length = es2.length * k ∧ (∀ (j : Nat) (u : Value), news[j]? = some u → w.cell? (ab.add j) = some u) ∧ (∀ u ∈ news, u.oneCell' = true) ∧
       ∀ (i : Nat) (e : Dat) (j : Nat) (d : Dat) (u : Value), es2[i]? = some e → e.cells[j]? = some d → news[i * k + j]? = some u → RepD R d u) :
   AppSrc P w t1 t1 ty e ie z k R es2 (.slice ad es2.length c) := by
 refine ⟨fun h0 base n cap hn => ?_, fun h0 => ?_⟩
 · subst h0
   exact run_append_zero hu hie base ad n cap c hn
 · obtain ⟨ab, news, rfl, hnl, hnc, hn1, hnr⟩ := hnews h0
   have hpos : 0 < es2.length := List.length_pos_iff.2 h0
   refine ⟨news, hnl, hn1, hnr, fun h1 h2 => ?_, fun g sLen sCap cur fz hg hfz hroom hfit => ?_, fun b sLen sCap olds ho hold hlt h1 h2 => ?_⟩
   · exact run_append_nil (P := P) w t1 ty e ie z hu hie hze ab es2.length c news (by rw [hse]; exact hnl) hnc hpos h1 h2
   · have := run_append_room_fz (P := P) (w := w) t1 ty e ie hu hie g sLen sCap cur fz hg hfz ab es2.length c news (by rw [hse]; exact hnl) hnc hn1 hroom (by rw [hse]; exact hfit)
     rw [hse] at this
     exact this
   · exact run_append_grow (P := P) w t1 ty e ie z hu hie hze b sLen sCap olds (by rw [hse]; exact ho) hold ab es2.length c news (by rw [hse]; exact hnl) hnc hlt h1 h2
theorem append_run (hτ : TabOK P τ) (H : Rel X L w0 nt ι S a w) {t1 t2 ty : TypeId} {s x z : AV} {sv xv : Value} {S' : St} (hs : RepV (rdOf L ι S.h w) ι s sv) (hx : RepV (rdOf L ι S.h w) ι x xv)
   (h : appendOp Ar.real τ S t1 t2 s x = some (z, S')) :
   ∃ v w' ι', (Builtin.append_ #[t1, t2] ty #[sv, xv]).run P w = .ok v w' ∧ Rel X L w0 nt ι' S' a w' ∧ RepV (rdOf L ι' S'.h w') ι' z v := by
 unfold appendOp at h
 split at h
 · rename_i e hk
   obtain ⟨d, ti, yt, _, _, hu, _, _, hk'⟩ := kindOf_run hτ hk (fun _ _ => trivial) (by simp)
   simp only [TK.ok] at hk'
   subst hk'
   split at h
   · rename_i y hy
     obtain ⟨de, ie, hue, hie, hse, hbe, hze, hzl, hke, hzok, _⟩ := hτ.get hy
     split at h
     · rename_i hz
       simp only [Bool.and_eq_true, bne_iff_ne, ne_eq] at hz
       split at h
       · rename_i htt
         obtain rfl := Nat.eq_of_beq_eq_true htt
         split at h
         · rename_i k es2 hsrc
           split at h
           · rename_i hky
             subst hky
             obtain ⟨ad, c, rfl, hke2, hnews⟩ := src_rep H.hr hx hsrc
             exact append_gen H hs hie hse hbe hzl hz hke2 (src_app hu hie hse hze hnews) h
           · cases h
         · cases h
       · split at h
         · rename_i l hk2 hke' h1
           obtain ⟨d2, ti2, yt2, _, _, hu2, _, _, hk2'⟩ := kindOf_run hτ hk2 (fun _ _ => trivial) (by simp)
           simp only [TK.ok] at hk2'
           subst hk2'
           obtain rfl := rep_s hx
           have hy1 := Nat.eq_of_beq_eq_true h1
           refine append_gen H hs hie hse hbe hzl hz (fun i x hx => ?_) (str_app hu hu2 hie (hse.trans hy1) hze hy1 l) h
           simp only [Ar.real, List.getElem?_map, Option.map_eq_some_iff] at hx
           obtain ⟨b, _, rfl⟩ := hx
           rw [hy1]
           rfl
         · cases h
     · cases h
   · cases h
 · cases h
end
end Go.Ua
