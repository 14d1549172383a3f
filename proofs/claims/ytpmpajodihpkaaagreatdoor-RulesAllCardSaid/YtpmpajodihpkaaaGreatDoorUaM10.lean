/- The library of this claim and its walks, part 10, joined out of smaller texts. No statement stands in it. -/
import Derived.Test.YtpmpajodihpkaaaGreatDoorUaM9
import Derived.Laws.IdiomStrings
set_option linter.unusedSimpArgs false
set_option linter.unusedVariables false
namespace Go.Ua
open Go
section
variable {X L : Nat → Prop} {w0 : W0} {w w' : World} {nt : Nat} {ι : Io} {S : St} {a : Act} {P : Program} {τ : Tab} {R : Rd}
def sameOp : Operand → Operand → Bool
 | .tmp i, .tmp j => Nat.beq i j
 | .const (.int _ n), .const (.int _ m) => n == m
 | _, _ => false
def makeSliceOp (A : Ar) (τ : Tab) (S : St) (t : TypeId) (lo co : Operand) : Option (AV × St) :=
 match kindOf τ t, evl S lo, evl S co with
 | .slice e, .d (.s (.int _ l)), .d (.s (.int _ c)) => (match look e τ with
   | some y => if okZero y = true ∧ y.size ≠ 0 ∧ y.bytes ≤ 8192 then (match sameOp lo co with
     | true => (match A.repD c y.zdat with
       | some es => some (.row S.fr y.size, S.new (.ds e y.size es))
       | none => none)
     | false => (match l, A.repD c y.zdat with
       | 0, some _ => some (.row S.fr y.size, S.new (.ds e y.size []))
       | _, _ => none)) else none
   | none => none)
 | _, _, _ => none
theorem sameOp_eval {lo co : Operand} (h : sameOp lo co = true) {k k' : IntKind} {l c : Int} (hl : a.eval lo = .int k l) (hc : a.eval co = .int k' c) : l = c := by
 unfold sameOp at h
 split at h
 · obtain rfl := Nat.eq_of_beq_eq_true h
   rw [hl] at hc
   cases hc; rfl
 · simp only [Act.eval] at hl hc
   cases hl; cases hc
   simpa using h
 · cases h
theorem wrap_i64 {n : Int} (h0 : 0 ≤ n) (h : n ≤ 9223372036854775807) : IntKind.i64.wrap n = n := by
 have h64 : (2 : Int) ^ 64 = 18446744073709551616 := by decide
 have h63 : (2 : Int) ^ (64 - 1) = 9223372036854775808 := by decide
 unfold IntKind.wrap
 simp only [IntKind.bits, IntKind.signed, Bool.true_and, decide_eq_true_eq, h64, h63]
 rw [if_neg (by omega)]
 omega
theorem makeSlice_run (hτ : TabOK P τ) (H : Rel X L w0 nt ι S a w) {t : TypeId} {lo co : Operand} {z : AV} {S' : St} (h : makeSliceOp Ar.real τ S t lo co = some (z, S')) :
   ∃ v w' ι', (Instr.makeSlice t (a.eval lo) (a.eval co)).run P w = .ok v w' ∧ Rel X L w0 nt ι' S' a w' ∧ RepV (rdOf L ι' S'.h w') ι' z v := by
 unfold makeSliceOp at h
 split at h
 · rename_i e kl l kc c hk hl hc
   have hlv := H.evl lo
   have hcv := H.evl co
   rw [hl] at hlv
   rw [hc] at hcv
   have hlv := rep_s hlv
   have hcv := rep_s hcv
   simp only [Sc.val] at hlv hcv
   obtain ⟨d, ti, yt, _, _, hu, _, _, hk'⟩ := kindOf_run hτ hk (fun _ _ => trivial) (by simp)
   simp only [TK.ok] at hk'
   subst hk'
   split at h
   · rename_i y hy
     obtain ⟨de, ie, hue, hie, hse, hbe, hze, hzl, hke, hzok, _⟩ := hτ.get hy
     split at h
     · rename_i hz
       have hzo := okZero_or hz.1
       have hk0 : 0 < y.size := Nat.pos_of_ne_zero hz.2.1
       have main : ∀ {es : List Dat}, 0 ≤ l → l ≤ c → c ≤ 34359738368 → es = List.replicate l.toNat y.zdat →
           ∃ v w' ι', (Instr.makeSlice t (a.eval lo) (a.eval co)).run P w = .ok v w' ∧ Rel X L w0 nt ι' (S.new (.ds e y.size es)) a w' ∧ RepV (rdOf L ι' (S.new (.ds e y.size es)).h w') ι' (.row S.fr y.size) v := by
         intro es h0 hlc hcb hes
         have hwl : IntKind.i64.wrap l = l := wrap_i64 h0 (by omega)
         have hwc : IntKind.i64.wrap c = c := wrap_i64 (by omega) (by omega)
         have hbb : (ie.bytes : Int) * c ≤ 8192 * 34359738368 := by
           have h1 : (ie.bytes : Int) ≤ 8192 := by have := hz.2.2; omega
           calc (ie.bytes : Int) * c ≤ 8192 * c := Int.mul_le_mul_of_nonneg_right h1 (by omega)
             _ ≤ 8192 * 34359738368 := Int.mul_le_mul_of_nonneg_left hcb (by omega)
         have htl : (decide (c < 0) || decide ((ie.bytes : Int) * c > 2 ^ 48)) = false := by
           have : (2 : Int) ^ 48 = 281474976710656 := by decide
           simp only [Bool.or_eq_false_iff, decide_eq_false_iff_not]
           omega
         have hlen : es.length = l.toNat := by rw [hes]; simp
         obtain ⟨h1, h2, h3⟩ := H.alloc (B := .ds e y.size es) (o := .cells (zrepV y c.toNat).toArray e (0, 0)) (cap := c.toNat) (len := es.length)
           (fun R' ι' w' hR hι hi hb => .ds e y.size es w.heap.size c.toNat (zrepV y c.toNat) hi (.of hb) (by rw [zrepV_length, hzl]) (by omega) (by simp only [maxLen]; omega) hk0
             (fun i x hx => by
               rw [hes, List.getElem?_replicate] at hx
               split at hx
               · obtain rfl := Option.some.inj hx
                 rw [zdat_cells y hzo]
                 simp [hzl]
               · cases hx)
             (fun u hu => zrep_one y _ u (List.mem_of_mem_take hu))
             (fun i x j d u hx hd hu => by
               rw [hes, List.getElem?_replicate] at hx
               split at hx
               · rename_i hil
                 obtain rfl := Option.some.inj hx
                 rw [zdat_cells y hzo, List.getElem?_map, Option.map_eq_some_iff] at hd
                 obtain ⟨sc, hsc, rfl⟩ := hd
                 have hj : j < y.zero.length := (List.getElem?_eq_some_iff.1 hsc).1
                 have hb2 := mul_lt (k := y.size) hil
                 have hb3 : l.toNat * y.size ≤ c.toNat * y.size := Nat.mul_le_mul_right _ (by omega)
                 rw [zrepV_get y _ _ (by rw [hzl]; omega), ← hzl, Nat.mul_comm, Nat.mul_add_mod, Nat.mod_eq_of_lt hj, List.getElem?_map, hsc] at hu
                 simp only [Option.map_some, Option.some.injEq] at hu
                 rw [← hu]
                 exact .s sc (hzok sc (List.mem_iff_getElem?.2 ⟨_, hsc⟩))
               · cases hx))
         refine ⟨.slice (some ⟨w.heap.size, 0, none⟩) l.toNat c.toNat, _, _, ?_, h1, by rw [← hlen]; exact .row _ _ _ _ _ (by simp [upd])⟩
         have hcond : (decide (c < 0) || decide ((ie.bytes : Int) * c > 2 ^ 48) || decide (l < 0) || decide (l > c)) = false := by
           rw [htl]
           simp
           omega
         rw [hlv, hcv]
         have hask : (askRoom (c.toNat * ie.bytes)).run P w = .ok () w := by
           unfold askRoom
           split
           · simp [mark, Sem.run]
           · simp
         simp only [Instr.makeSlice, Sem.run_bind, run_underlying hu, Result.andThen_ok, asInt, asIntOf, Sem.run_pure, typeInfo, run_program, hie, hwl, hwc, hcond, Bool.false_eq_true, if_false, hask, sizeOf_run hie, hse]
         by_cases h00 : c.toNat * y.size = 0
         · have hc0 : c.toNat = 0 := by
             rcases Nat.mul_eq_zero.1 h00 with h | h
             · exact h
             · omega
           simp only [hc0, Nat.zero_mul, if_true, Sem.run_bind, Sem.run_pure, Result.andThen_ok]
           have e1 : (Array.range 0).map ((#[] : Array Value)[· % (#[] : Array Value).size]!) = (zrepV y 0).toArray := by simp [zrepV]
           rw [e1]
           simp only [newRow, newObj]
           rfl
         · rw [if_neg h00]
           have e1 := range_zero y c.toNat hzo
           rw [hzl] at e1
           simp only [Sem.run_bind, zeroValue, typeInfo, run_program, hie, Sem.run_pure, Result.andThen_ok, hze, e1, newRow, newObj]
           rfl
       split at h
       · rename_i hsame
         have hlc := sameOp_eval hsame hlv hcv
         split at h
         · rename_i es hes
           simp only [Option.some.injEq, Prod.mk.injEq] at h
           obtain ⟨rfl, rfl⟩ := h
           simp only [Ar.real] at hes
           split at hes
           · rename_i hcb
             obtain rfl := Option.some.inj hes
             exact main (by omega) (by omega) hcb.2 (by rw [hlc])
           · cases hes
         · cases h
       · split at h
         · rename_i hes _
           simp only [Option.some.injEq, Prod.mk.injEq] at h
           obtain ⟨rfl, rfl⟩ := h
           simp only [Ar.real] at hes
           split at hes
           · rename_i hcb
             exact main (Int.le_refl 0) hcb.1 hcb.2 (by simp)
           · cases hes
         · cases h
     · cases h
   · cases h
 · cases h
def strBytesOp (A : Ar) (τ : Tab) (S : St) (s d : TypeId) (x : AV) : Option (AV × St) := match x, kindOf τ s, kindOf τ d with
 | .d (.s (.str l)), .string, .slice e => (match kindOf τ e with
   | .int .u8 => some (.row S.fr 1, S.new (.ds e 1 (A.bytesD l)))
   | _ => none)
 | _, _, _ => none
theorem strBytes_run (hτ : TabOK P τ) (H : Rel X L w0 nt ι S a w) {s d : TypeId} {x z : AV} {xv : Value} {S' : St} (hx : RepV (rdOf L ι S.h w) ι x xv) (h : strBytesOp Ar.real τ S s d x = some (z, S')) :
   ∃ v w' ι', (convert s d xv).run P w = .ok v w' ∧ Rel X L w0 nt ι' S' a w' ∧ RepV (rdOf L ι' S'.h w') ι' z v := by
 unfold strBytesOp at h
 split at h
 · rename_i l e hs hd
   split at h
   · rename_i he
     simp only [Option.some.injEq, Prod.mk.injEq] at h
     obtain ⟨rfl, rfl⟩ := h
     obtain ⟨d1, i1, y1, _, _, hu1, _, _, hk1⟩ := kindOf_run hτ hs (fun _ _ => trivial) (by simp)
     obtain ⟨d2, i2, y2, _, _, hu2, _, _, hk2⟩ := kindOf_run hτ hd (fun _ _ => trivial) (by simp)
     obtain ⟨d3, i3, y3, _, _, hu3, _, _, hk3⟩ := kindOf_run hτ he (fun _ _ => trivial) (by simp)
     simp only [TK.ok] at hk1 hk2 hk3
     subst hk1; subst hk2; subst hk3
     have hlo : l.length ≤ maxLen := rep_ok hx
     obtain rfl := rep_s hx
     have hsz : (ByteArray.mk l.toArray).size = l.length := str_size l
     have run := run_bytes_of_string (P := P) w s d e ⟨l.toArray⟩ hu1 hu2 hu3
     have hge := grownCap_ge w l.length 0 e
     have hcm := grownCap_le_maxLen w l.length 0 e hlo
     rw [hsz] at run
     generalize grownCap w l.length 0 e = cap at run hge hcm
     have hrow : bytesRow ⟨l.toArray⟩ cap = ((l.map fun b => Value.int .u8 b.toNat) ++ (List.replicate (cap - l.length) (Value.int .u8 0))).toArray := by
       apply Array.ext'
       simp [bytesRow, hsz]
     rw [hrow] at run
     have hlen : ((l.map fun b => Value.int .u8 b.toNat) ++ (List.replicate (cap - l.length) (Value.int .u8 0))).length = cap := by simp; omega
     obtain ⟨ι', h1, h2⟩ := H.fresh (w' := w.drew.alloc (.cells ((l.map fun b => Value.int .u8 b.toNat) ++ (List.replicate (cap - l.length) (Value.int .u8 0))).toArray e
         (((l.map fun b => Value.int .u8 b.toNat) ++ (List.replicate (cap - l.length) (Value.int .u8 0))).toArray.size, ((l.map fun b => Value.int .u8 b.toNat) ++ (List.replicate (cap - l.length) (Value.int .u8 0))).toArray.size + 1)))
       (n0 := none) (loc := .blk w.heap.size cap l.length) (B := .ds e 1 (Ar.real.bytesD l)) (z := .row S.fr 1) (v := .slice (some ⟨w.heap.size, 0, none⟩) l.length cap)
       (fun b hb _ => heap_alloc_old w.drew _ b hb) (fun b c l h => by cases h; exact .inl (Nat.le_refl _)) rfl rfl rfl (by simp)
       (fun R' ι' hR hι hi => by
         refine .ds e 1 _ w.heap.size cap _ (by simpa [Ar.real] using hi) ⟨_, heap_alloc_new w.drew _, .inr (by simp)⟩ (by rw [hlen]; omega) (by simp [Ar.real]; omega) hcm (by decide) (fun i x hx => ?_) (fun u hu => ?_) (fun i x j c v hx hc hv => ?_)
         · simp only [Ar.real, List.getElem?_map, Option.map_eq_some_iff] at hx
           obtain ⟨b, _, rfl⟩ := hx
           rfl
         · have := List.mem_of_mem_take hu
           simp only [List.mem_append, List.mem_map, List.mem_replicate] at this
           rcases this with ⟨b, _, rfl⟩ | ⟨_, rfl⟩ <;> rfl
         · simp only [Ar.real, List.getElem?_map, Option.map_eq_some_iff] at hx
           obtain ⟨b, hb, rfl⟩ := hx
           cases j with
           | zero =>
             simp only [Dat.cells, List.getElem?_cons_zero, Option.some.injEq] at hc
             subst hc
             have hil := (List.getElem?_eq_some_iff.1 hb).1
             rw [Nat.mul_one, Nat.add_zero, List.getElem?_append_left (by simpa using hil), List.getElem?_map, hb] at hv
             simp only [Option.map_some, Option.some.injEq] at hv
             subst hv
             exact .s (.int .u8 _) (ok_byte b)
           | succ j => simp [Dat.cells] at hc)
       (fun R' ι' hi => .row _ _ _ _ _ hi)
     exact ⟨_, _, ι', run, h1, h2⟩
   · cases h
 · cases h
def markOp (τ : Tab) (S : St) (s d : TypeId) (x : AV) : Option (AV × St) := match x, kindOf τ s, Nat.beq s d with
 | .row n _, .slice e, true => (match kindOf τ e, look n S.h with
   | .int .u8, some (.ds E k (y :: r)) => some (x, S.wr n (.ds E k (y :: r)))
   | _, _ => none)
 | _, _, _ => none
theorem modify_get {a : Array Obj} {b i : Nat} {f : Obj → Obj} : (a.modify b f)[i]? = if b = i then a[i]?.map f else a[i]? := by
 rw [Array.getElem?_modify]
theorem mark_run (hτ : TabOK P τ) (H : Rel X L w0 nt ι S a w) {s d : TypeId} {x z : AV} {xv : Value} {S' : St} (hx : RepV (rdOf L ι S.h w) ι x xv) (h : markOp τ S s d x = some (z, S')) :
   ∃ v w' ι', (convert s d xv).run P w = .ok v w' ∧ Rel X L w0 nt ι' S' a w' ∧ RepV (rdOf L ι' S'.h w') ι' z v := by
 unfold markOp at h
 split at h
 · rename_i n k' e hs hsd
   obtain rfl := Nat.eq_of_beq_eq_true hsd
   split at h
   · rename_i E k y r he hlook
     simp only [Option.some.injEq, Prod.mk.injEq] at h
     obtain ⟨rfl, rfl⟩ := h
     obtain ⟨d1, i1, y1, _, _, hu1, _, _, hk1⟩ := kindOf_run hτ hs (fun _ _ => trivial) (by simp)
     obtain ⟨d3, i3, y3, _, _, hu3, _, _, hk3⟩ := kindOf_run hτ he (fun _ _ => trivial) (by simp)
     simp only [TK.ok] at hk1 hk3
     subst hk1; subst hk3
     cases H.hr.hp n _ hlook with
     | ds _ _ _ b cap cur hi hb hl hc hm hk0 hk h1 hrep =>
     obtain ⟨fz, hb, hfz⟩ := hb
     cases hx with
     | row0 _ _ a0 hi' => rw [hi] at hi'; cases hi'
     | row _ _ b' cap' len' hi' =>
     rw [hi] at hi'
     cases hi'
     have hbl : b < w.heap.size := (Array.getElem?_eq_some_iff.1 hb).1
     obtain ⟨fz', hfz', hz⟩ : ∃ fz', (w.freeze ⟨b, cur.length, none⟩ 1).heap[b]? = some (.cells cur.toArray E fz') ∧ FzOK fz' cur.length := by
       obtain ⟨lo, hi2⟩ := fz
       refine ⟨if lo == hi2 then (cur.length, cur.length + 1) else (min lo cur.length, max hi2 (cur.length + 1)), ?_, ?_⟩
       · unfold World.freeze
         rw [if_neg (by decide)]
         show (w.heap.modify b _)[b]? = _
         rw [modify_get, if_pos rfl, hb]
         rfl
       · split
         · exact .inr (Nat.le_refl _)
         · rename_i hne
           rcases hfz with h | h
           · cases h; simp at hne
           · exact .inr (by simp only at h ⊢; omega)
     have hold : ∀ i, i ≠ b → (w.freeze ⟨b, cur.length, none⟩ 1).heap[i]? = w.heap[i]? := fun i hne => by
       unfold World.freeze
       rw [if_neg (by decide)]
       show (w.heap.modify b _)[i]? = _
       rw [modify_get, if_neg (fun e => hne e.symm)]
     have hsz : (w.freeze ⟨b, cur.length, none⟩ 1).heap.size = w.heap.size := by
       unfold World.freeze
       rw [if_neg (by decide)]
       simp
     have hfr : n < S.fr := by
       rcases Nat.lt_or_ge n S.fr with h | h
       · exact h
       · rw [H.hr.fresh n h] at hi; cases hi
     have run : (convert s s (.slice (some ⟨b, 0, none⟩) (y :: r).length cap)).run P w = .ok (.slice (some ⟨b, 0, none⟩) (y :: r).length cap) (w.freeze ⟨b, cur.length, none⟩ 1) := by
       have hsh : w.shape? b = some (E, cur.length) := by
         unfold World.shape?
         rw [hb]
         simp
       simp [convert, run_underlying hu1, run_underlying hu3, markStringish, hsh]
     have := H.change (w' := w.freeze ⟨b, cur.length, none⟩ 1) (n0 := some n) (m := n) (fr' := S.fr) (loc := .blk b cap (y :: r).length) (B := .ds E k (y :: r)) ⟨Nat.le_refl _, hfr⟩ (.inr ⟨rfl, hi⟩)
       (fun b' hb' hne => hold b' (fun e => hne n cap (y :: r).length rfl (by rw [hlook]; rfl) (by rw [e]; exact hi)))
       (fun b' c' l' h => by cases h; exact .inr ⟨n, cap, _, rfl, by rw [hlook]; rfl, hi⟩)
       (by unfold World.freeze; rw [if_neg (by decide)]) (by unfold World.freeze; rw [if_neg (by decide)]) (by unfold World.freeze; rw [if_neg (by decide)]) (by omega)
       (fun hR hι => .ds E k _ b cap cur (hι _ _ hi) ⟨fz', hfz', hz⟩ hl hc hm hk0 hk h1 (fun i e j c v g1 g2 g3 => (hrep i e j c v g1 g2 g3).mono hR))
     exact ⟨_, _, _, run, this.1, .row _ _ _ _ _ (this.2.2 _ _ hi)⟩
   · cases h
 · cases h
def makeMapOp (τ : Tab) (S : St) (t : TypeId) (r : Option Operand) : Option (AV × St) := match r, mapTy τ t with
 | none, true => some (.mp S.fr, S.new (.mp fun _ => 0))
 | _, _ => none
theorem makeMap_run (hτ : TabOK P τ) (H : Rel X L w0 nt ι S a w) {t : TypeId} {r : Option Operand} {z : AV} {S' : St} (h : makeMapOp τ S t r = some (z, S')) :
   ∃ v w' ι', (Instr.makeMap t (r.map a.eval)).run P w = .ok v w' ∧ Rel X L w0 nt ι' S' a w' ∧ RepV (rdOf L ι' S'.h w') ι' z v := by
 unfold makeMapOp at h
 split at h
 · rename_i hm
   simp only [Option.some.injEq, Prod.mk.injEq] at h
   obtain ⟨rfl, rfl⟩ := h
   obtain ⟨h1, h2, h3⟩ := H.alloc (B := .mp fun _ => 0) (o := .map #[] 0) (cap := 1) (len := 0)
     (fun R' ι' w' hR hι hi hb => .mp _ _ _ _ #[] 0 hi hb ⟨by simp, by simp, fun _ _ => rfl⟩ (fun s => by decide))
   refine ⟨.map (some w.heap.size), _, _, ?_, h1, .mp _ _ 1 0 (by simp [upd])⟩
   simp only [Instr.makeMap, newObj, Sem.run_bind]
   rfl
 · cases h
def updMapOp (A : Ar) (τ : Tab) (S : St) (t : TypeId) (x i y : AV) : Option St := match x, i, y with
 | .mp n, .d (.s (.str s)), .d (.s (.int .i64 v)) => (match mapTy τ t, mapOf S n with
   | true, some f => some (S.wr n (.mp (A.setM f s v)))
   | _, _ => none)
 | _, _, _ => none
theorem mapIs.push {es : List MapEntry} {f : List UInt8 → Int} (h : mapIs es f) {s : List UInt8} (hs : ∀ x, x ∈ es → x.key ≠ .string ⟨s.toArray⟩) (n : Int) (c : Nat) : mapIs (es ++ [⟨.string ⟨s.toArray⟩, .int .i64 n, c⟩]) (fun x => if x = s then n else f x) := by
 obtain ⟨h1, h2, h3⟩ := h
 refine ⟨?_, ?_, ?_⟩
 · rw [List.map_append, List.nodup_append]
   refine ⟨h1, by simp, ?_⟩
   intro a ha b hb
   obtain ⟨x, hx, rfl⟩ := List.mem_map.1 ha
   simp only [List.map_cons, List.map_nil, List.mem_singleton] at hb
   rw [hb]
   exact hs x hx
 · intro e he
   rcases List.mem_append.1 he with he | he
   · obtain ⟨k, hk1, hk2⟩ := h2 e he
     refine ⟨k, hk1, ?_⟩
     show e.val = .int .i64 (if k = s then n else f k)
     rw [if_neg (fun g => hs e he (by rw [hk1, g]))]
     exact hk2
   · obtain rfl := List.mem_singleton.1 he
     exact ⟨s, rfl, by simp⟩
 · intro x hx
   have hne : x ≠ s := fun g => hx _ (List.mem_append_right _ (List.mem_singleton.2 rfl)) (by rw [g])
   simp only [if_neg hne]
   exact h3 x fun e he => hx e (List.mem_append_left _ he)
theorem mapIs.modify {es : List MapEntry} {f : List UInt8 → Int} (h : mapIs es f) {s : List UInt8} {j : Nat} {e0 : MapEntry} (hj : es[j]? = some e0) (he : e0.key = .string ⟨s.toArray⟩) (n : Int) : mapIs (es.modify j fun e => { e with key := .string ⟨s.toArray⟩, val := .int .i64 n }) (fun x => if x = s then n else f x) := by
 obtain ⟨h1, h2, h3⟩ := h
 have hk : (es.modify j fun e => { e with key := .string ⟨s.toArray⟩, val := .int .i64 n }).map (·.key) = es.map (·.key) := by
   refine List.ext_getElem? fun i => ?_
   rw [List.getElem?_map, List.getElem?_map, List.getElem?_modify]
   by_cases e : j = i
   · subst e
     rw [hj]
     simp [he]
   · simp [e]
 have hget : ∀ i e, (es.modify j fun e => { e with key := .string ⟨s.toArray⟩, val := .int .i64 n })[i]? = some e → (i = j ∧ e.key = .string ⟨s.toArray⟩ ∧ e.val = .int .i64 n) ∨ (i ≠ j ∧ es[i]? = some e) := by
   intro i e h
   rw [List.getElem?_modify] at h
   by_cases e2 : j = i
   · subst e2
     rw [hj] at h
     simp at h
     exact .inl ⟨rfl, by rw [← h], by rw [← h]⟩
   · simp [e2] at h
     exact .inr ⟨fun g => e2 g.symm, h⟩
 refine ⟨by rw [hk]; exact h1, ?_, ?_⟩
 · intro e hm
   obtain ⟨i, hi⟩ := List.mem_iff_getElem?.1 hm
   rcases hget i e hi with ⟨_, g2, g3⟩ | ⟨g1, g2⟩
   · exact ⟨s, g2, by simp [g3]⟩
   · obtain ⟨k, hk1, hk2⟩ := h2 e (List.mem_of_getElem? g2)
     refine ⟨k, hk1, ?_⟩
     show e.val = .int .i64 (if k = s then n else f k)
     rw [if_neg (fun g => g1 ?_)]
     · exact hk2
     · subst g
       have a1 : (es.map (·.key))[i]? = some (.string ⟨k.toArray⟩) := by rw [List.getElem?_map, g2]; simp [hk1]
       have a2 : (es.map (·.key))[j]? = some (.string ⟨k.toArray⟩) := by rw [List.getElem?_map, hj]; simp [he]
       exact (List.getElem?_inj (List.getElem?_eq_some_iff.1 a1).1 h1).1 (a1.trans a2.symm)
 · intro x hx
   have hmem : ∀ v, v ∈ es.map (·.key) → v ≠ .string ⟨x.toArray⟩ := by
     intro v hv
     rw [← hk] at hv
     obtain ⟨e, he, rfl⟩ := List.mem_map.1 hv
     exact hx e he
   have hne : x ≠ s := fun g => hmem (.string ⟨s.toArray⟩) (List.mem_map.2 ⟨e0, List.mem_of_getElem? hj, he⟩) (by rw [g])
   simp only [if_neg hne]
   exact h3 x fun e he => hmem _ (List.mem_map.2 ⟨e, he, rfl⟩)
theorem updMap_run (hτ : TabOK P τ) (H : Rel X L w0 nt ι S a w) {t : TypeId} {x i y : AV} {v u z : Value} {S' : St} (hx : RepV (rdOf L ι S.h w) ι x v) (hi : RepV (rdOf L ι S.h w) ι i u) (hy : RepV (rdOf L ι S.h w) ι y z) (h : updMapOp Ar.real τ S t x i y = some S') :
   ∃ w' ι', (Instr.mapUpdate t v u z).run P w = .ok () w' ∧ Rel X L w0 nt ι' S' a w' := by
 unfold updMapOp at h
 split at h
 · rename_i n s m
   split at h
   · rename_i f0 hm hf
     obtain rfl := Option.some.inj h
     obtain rfl := rep_s hi
     have hok : (Sc.int .i64 m).ok := rep_ok hy
     obtain rfl := rep_s hy
     unfold mapOf at hf
     split at hf
     · rename_i f hl
       obtain rfl := Option.some.inj hf
       cases hx with
       | mp _ b c l hn =>
         cases H.hr.hp n _ hl with
         | mp _ b' c' l' es clock hi2 hb hes hbd =>
           have hi3 := hi2
           rw [hn] at hi2
           cases hi2
           obtain ⟨kt, et, ti, h1, h2, h3, h4⟩ := mapTy_ok hτ hm
           have hck : (Instr.checkKey false 10000 kt (.string ⟨s.toArray⟩)).run P w = .ok () w := MapKept.run_checkKey h2 (string_key s) _ 9999
           have hlt : b < w.heap.size := (Array.getElem?_eq_some_iff.1 hb).1
           have fin : ∀ (es' : Array MapEntry) (clock' : Nat), mapIs es'.toList (fun q => if q = s then m else f q) →
               Rel X L w0 nt (upd ι n (.blk b c l)) ⟨S.t, (n, .mp (fun q => if q = s then m else f q)) :: del n S.h, S.fr⟩ a { w with heap := w.heap.setIfInBounds b (.map es' clock') } := by
             intro es' clock' hes'
             have hfr : n < S.fr := by
               refine Nat.lt_of_not_le fun g => ?_
               rw [H.hr.fresh n g] at hn
               cases hn
             exact (H.change (w' := { w with heap := w.heap.setIfInBounds b (.map es' clock') }) (n0 := some n) (m := n) (fr' := S.fr) (loc := .blk b c l) (B := .mp (fun q => if q = s then m else f q)) ⟨Nat.le_refl _, hfr⟩ (.inr ⟨rfl, hn⟩)
               (fun b' hb' hne => by
                 have : b' ≠ b := fun e => hne n c l rfl (by rw [hl]; rfl) (by rw [e]; exact hn)
                 simp [Array.getElem?_setIfInBounds, this.symm])
               (fun b' c' l' h => by cases h; exact .inr ⟨n, c, l, rfl, by rw [hl]; rfl, hn⟩) rfl rfl rfl (by simp)
               (fun hR hι => .mp _ b c l es' clock' (hι _ _ hn) (by simp [Array.getElem?_setIfInBounds, hlt]) hes' (fun q => by
                 by_cases e : q = s
                 · simp only [if_pos e]; exact hok
                 · simp only [if_neg e]; exact hbd q))).1
           rcases MapKept.findNow_spec (string_key s) es.toList 0 hes.keys with ⟨g1, g2⟩ | ⟨j, e, g1, g2, g3⟩
           · refine ⟨_, _, ?_, fin (es.push ⟨.string ⟨s.toArray⟩, .int .i64 m, clock⟩) (clock + 1) (by simpa using hes.push g2 m clock)⟩
             simp [Instr.mapUpdate, run_underlying h1, MapKept.run_getObj_map hb, Sc.val, hck, MapKept.run_findKey h2 g1, MapKept.run_setObj_map _ hb]
           · refine ⟨_, _, ?_, fin (es.modify j fun e => { e with key := .string ⟨s.toArray⟩, val := .int .i64 m }) clock (by simpa using hes.modify g2 g3 m)⟩
             have g2' : es[j]? = some e := by simpa using g2
             have hbq : ((⟨s.toArray⟩ : ByteArray) == ⟨s.toArray⟩) = true := by
               rw [MapKept.bytes_beq]
             simp [Instr.mapUpdate, run_underlying h1, MapKept.run_getObj_map hb, Sc.val, hck, MapKept.run_findKey h2 g1, Instr.keyThatStays, Instr.sameBits, g2', g3, hbq, MapKept.run_setObj_map _ hb]
     · cases hf
   · cases h
 · cases h
def effOp (A : Ar) (τ : Tab) (S : St) : Op → Option (AV × St)
 | .alloc t => allocOp τ S t
 | .box t x => boxOp τ S t (evl S x)
 | .buildSlice t n parts => buildSliceOp τ S t n (evps S parts.toList)
 | .makeSlice t l c => makeSliceOp A τ S t l c
 | .makeMap t r => makeMapOp τ S t r
 | .mapUpdate t m k x => (match updMapOp A τ S t (evl S m) (evl S k) (evl S x) with
   | some S' => some (.tup [], S')
   | none => none)
 | .convert s d x => (match strBytesOp A τ S s d (evl S x) with
   | some r => some r
   | none => markOp τ S s d (evl S x))
 | .store t p x => (match sizeAt τ t with
   | 0 => none
   | _ + 1 => (match storeOp A τ S t (evl S p) (evl S x) with
     | some S' => some (.tup [], S')
     | none => none))
 | .call c => (match c.callee, c.argTypes.toList, c.args.toList with
   | .builtin .append, [t1, t2], [s, x] => appendOp A τ S t1 t2 (evl S s) (evl S x)
   | _, _, _ => none)
 | _ => none
theorem effOp_run (hτ : TabOK P τ) (H : Rel X L w0 nt ι S a w) {o : Oper} {z : AV} {S' : St} (h : effOp Ar.real τ S o.op = some (z, S')) :
   ∃ v w' ι', ((execOp a.eval o).run P w = .ok (.value v) w' ∨ ((execOp a.eval o).run P w = .ok .skip w' ∧ v = undef)) ∧ Rel X L w0 nt ι' S' a w' ∧ RepV (rdOf L ι' S'.h w') ι' z v := by
 have lift : ∀ {s : Sem Value}, execOp a.eval o = (do pure (.value (← s))) → (∃ v w' ι', s.run P w = .ok v w' ∧ Rel X L w0 nt ι' S' a w' ∧ RepV (rdOf L ι' S'.h w') ι' z v) →
     ∃ v w' ι', ((execOp a.eval o).run P w = .ok (.value v) w' ∨ ((execOp a.eval o).run P w = .ok .skip w' ∧ v = undef)) ∧ Rel X L w0 nt ι' S' a w' ∧ RepV (rdOf L ι' S'.h w') ι' z v := by
   intro s he ⟨v, w', ι', h1, h2, h3⟩
   exact ⟨v, w', ι', .inl (by rw [he]; simp [Sem.run_bind, h1]), h2, h3⟩
 unfold effOp at h
 split at h
 · rename_i t ho
   exact lift (by simp only [execOp, ho]) (alloc_run hτ H h)
 · rename_i t x ho
   exact lift (by simp only [execOp, ho]) (box_run H (H.evl x) h)
 · rename_i t n parts ho
   refine lift (s := Instr.buildSlice t n (parts.map fun (i, x) => (i, a.eval x))) (by simp only [execOp, ho]) ?_
   rw [evps_eq] at h
   have := buildSlice_run (P := P) (w := w) hτ H (vparts := parts.toList.map fun p => (p.1, a.eval p.2)) (by simp) (fun j p q hp hq => by
     rw [List.getElem?_map, Option.map_eq_some_iff] at hp hq
     obtain ⟨x, hx, rfl⟩ := hp
     obtain ⟨x', hx', rfl⟩ := hq
     rw [hx] at hx'
     cases hx'
     exact ⟨rfl, H.evl _⟩) h
   have e : parts.map (fun (i, x) => (i, a.eval x)) = (parts.toList.map fun p => (p.1, a.eval p.2)).toArray := by
     apply Array.ext'
     simp
   rw [e]
   exact this
 · rename_i t l c ho
   exact lift (by simp only [execOp, ho]) (makeSlice_run hτ H h)
 · rename_i t r ho
   exact lift (by simp only [execOp, ho]) (makeMap_run hτ H h)
 · rename_i t m k x ho
   split at h
   · rename_i S2 hS
     simp only [Option.some.injEq, Prod.mk.injEq] at h
     obtain ⟨rfl, rfl⟩ := h
     obtain ⟨w', ι', h1, h2⟩ := updMap_run (P := P) hτ H (H.evl m) (H.evl k) (H.evl x) hS
     refine ⟨undef, w', ι', .inr ⟨?_, rfl⟩, h2, ?_⟩
     · simp [execOp, ho, Sem.run_bind, h1]
     · have := RepV.tup (R := rdOf L ι' S2.h w') (ι := ι') [] [] rfl (by simp)
       exact this
   · cases h
 · rename_i s d x ho
   split at h
   · rename_i r hr
     obtain rfl := Option.some.inj h
     exact lift (by simp only [execOp, ho]) (strBytes_run hτ H (H.evl x) hr)
   · exact lift (by simp only [execOp, ho]) (mark_run hτ H (H.evl x) h)
 · rename_i t p x ho
   split at h
   · cases h
   · rename_i m hm
     split at h
     · rename_i S2 hS
       simp only [Option.some.injEq, Prod.mk.injEq] at h
       obtain ⟨rfl, rfl⟩ := h
       obtain ⟨w', ι', h1, h2, _⟩ := store_run hτ H (H.evl p) (H.evl x) (by omega) hS
       refine ⟨undef, w', ι', .inr ⟨?_, rfl⟩, h2, ?_⟩
       · simp [execOp, ho, Sem.run_bind, h1]
       · have := RepV.tup (R := rdOf L ι' S2.h w') (ι := ι') [] [] rfl (by simp)
         exact this
     · cases h
 · rename_i c ho
   split at h
   · rename_i t1 t2 s x hcal hts hxs
     obtain ⟨v, w', ι', h1, h2, h3⟩ := append_run (P := P) (w := w) (ty := o.type) hτ H (H.evl s) (H.evl x) h
     refine ⟨v, w', ι', .inl ?_, h2, h3⟩
     have e1 : c.argTypes = #[t1, t2] := by apply Array.ext'; simpa using hts
     have e2 : c.args = #[s, x] := by apply Array.ext'; simpa using hxs
     simp only [execOp, ho, resolve, hcal, Sem.run_bind, Sem.run_pure, Result.andThen_ok, invoke, e1, e2, builtin, List.map_toArray, List.map_cons, List.map_nil, h1]
   · cases h
 · cases h
def stepOp (A : Ar) (τ : Tab) (nt : Nat) (S : St) (o : Oper) : Option St :=
 match (match o.dst with
   | some d => Nat.blt d nt
   | none => true), pureOp A τ S o.op with
 | true, some z => some (S.put o.dst z)
 | true, none => (match effOp A τ S o.op with
   | some (z, S') => some (S'.put o.dst z)
   | none => none)
 | false, _ => none
theorem stepOp_wp (hτ : TabOK P τ) (H : Rel X L w0 nt ι S a w) {o : Oper} {S' : St} (h : stepOp Ar.real τ nt S o = some S') {K : Act → World → Prop} {Q : Exit → Act → World → Prop}
   (hK : ∀ ι' a' w', Rel X L w0 nt ι' S' a' w' → K a' w') : o.wp P a w K Q := by
 unfold stepOp at h
 have hd : (match o.dst with
   | some d => Nat.blt d nt
   | none => true) = true → ∀ n, o.dst = some n → n < nt := by
   intro h n hn
   rw [hn] at h
   simp only [Nat.blt, Nat.ble_eq] at h
   exact h
 split at h
 · rename_i z hdst hz
   obtain rfl := Option.some.inj h
   obtain ⟨v, hv, hr⟩ := pureOp_run hτ H hz
   unfold Oper.wp
   rw [hv]
   exact hK _ _ _ (H.put (hd hdst) hr)
 · rename_i hdst hz
   split at h
   · rename_i z S2 hS
     obtain rfl := Option.some.inj h
     obtain ⟨v, w', ι', h1, h2, h3⟩ := effOp_run hτ H hS
     unfold Oper.wp
     rcases h1 with h1 | ⟨h1, rfl⟩
     · rw [h1]
       exact hK _ _ _ (h2.put (hd hdst) h3)
     · rw [h1]
       exact hK _ _ _ (h2.put (hd hdst) h3)
   · cases h
 · cases h
end
end Go.Ua
