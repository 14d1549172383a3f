/- All operations but calls of Go functions: one step. A library of this claim's own: no statement stands in it. -/
import Derived.Test.YtialapjchamkfaaDoorUaM
import Derived.Laws.IdiomStrings
namespace Go.Ua
open Go
set_option linter.unusedVariables false
set_option linter.unusedSimpArgs false

section
variable {X L : Nat → Prop} {w0 : W0} {w w' : World} {nt : Nat} {ι : Io} {S : St} {a : Act} {P : Program} {τ : Tab} {R : Rd}

def sameOp : Operand → Operand → Bool
  | .tmp i, .tmp j => Nat.beq i j
  | .const (.int _ n), .const (.int _ m) => n == m
  | _, _ => false

def makeSliceOp (A : Ar) (τ : Tab) (S : St) (t : TypeId) (lo co : Operand) : Option (AV × St) :=
  match kindOf τ t, evl S lo, evl S co with
  | .slice e, .d (.s (.int _ l)), .d (.s (.int _ c)) => (match look e τ with
    | some y => if okZero y = true ∧ y.size ≠ 0 ∧ y.bytes ≤ 8192 then (match sameOp lo co with
      | true => (match A.repD c y.zdat with
        | some es => some (.row S.fr y.size, S.new (.ds e y.size es))
        | none => none)
      | false => (match l, A.repD c y.zdat with
        | 0, some _ => some (.row S.fr y.size, S.new (.ds e y.size []))
        | _, _ => none)) else none
    | none => none)
  | _, _, _ => none

theorem sameOp_eval {lo co : Operand} (h : sameOp lo co = true) {k k' : IntKind} {l c : Int} (hl : a.eval lo = .int k l) (hc : a.eval co = .int k' c) : l = c := by
  unfold sameOp at h
  split at h
  · obtain rfl := Nat.eq_of_beq_eq_true h
    rw [hl] at hc
    cases hc; rfl
  · simp only [Act.eval] at hl hc
    cases hl; cases hc
    simpa using h
  · cases h

theorem wrap_i64 {n : Int} (h0 : 0 ≤ n) (h : n ≤ 9223372036854775807) : IntKind.i64.wrap n = n := by
  have h64 : (2 : Int) ^ 64 = 18446744073709551616 := by decide
  have h63 : (2 : Int) ^ (64 - 1) = 9223372036854775808 := by decide
  unfold IntKind.wrap
  simp only [IntKind.bits, IntKind.signed, Bool.true_and, decide_eq_true_eq, h64, h63]
  rw [if_neg (by omega)]
  omega

theorem makeSlice_run (hτ : TabOK P τ) (H : Rel X L w0 nt ι S a w) {t : TypeId} {lo co : Operand} {z : AV} {S' : St} (h : makeSliceOp Ar.real τ S t lo co = some (z, S')) :
    ∃ v w' ι', (Instr.makeSlice t (a.eval lo) (a.eval co)).run P w = .ok v w' ∧ Rel X L w0 nt ι' S' a w' ∧ RepV (rdOf L ι' S'.h w') ι' z v := by
  unfold makeSliceOp at h
  split at h
  · rename_i e kl l kc c hk hl hc
    have hlv := H.evl lo
    have hcv := H.evl co
    rw [hl] at hlv
    rw [hc] at hcv
    have hlv := rep_s hlv
    have hcv := rep_s hcv
    simp only [Sc.val] at hlv hcv
    obtain ⟨d, ti, yt, _, _, hu, _, _, hk'⟩ := kindOf_run hτ hk (fun _ _ => trivial) (by simp)
    simp only [TK.ok] at hk'
    subst hk'
    split at h
    · rename_i y hy
      obtain ⟨de, ie, hue, hie, hse, hbe, hze, hzl, hke, hzok, _⟩ := hτ.get hy
      split at h
      · rename_i hz
        have hzo := okZero_or hz.1
        have hk0 : 0 < y.size := Nat.pos_of_ne_zero hz.2.1
        have main : ∀ {es : List Dat}, 0 ≤ l → l ≤ c → c ≤ 34359738368 → es = List.replicate l.toNat y.zdat →
            ∃ v w' ι', (Instr.makeSlice t (a.eval lo) (a.eval co)).run P w = .ok v w' ∧ Rel X L w0 nt ι' (S.new (.ds e y.size es)) a w' ∧ RepV (rdOf L ι' (S.new (.ds e y.size es)).h w') ι' (.row S.fr y.size) v := by
          intro es h0 hlc hcb hes
          have hwl : IntKind.i64.wrap l = l := wrap_i64 h0 (by omega)
          have hwc : IntKind.i64.wrap c = c := wrap_i64 (by omega) (by omega)
          have hbb : (ie.bytes : Int) * c ≤ 8192 * 34359738368 := by
            have h1 : (ie.bytes : Int) ≤ 8192 := by have := hz.2.2; omega
            calc (ie.bytes : Int) * c ≤ 8192 * c := Int.mul_le_mul_of_nonneg_right h1 (by omega)
              _ ≤ 8192 * 34359738368 := Int.mul_le_mul_of_nonneg_left hcb (by omega)
          have htl : (decide (c < 0) || decide ((ie.bytes : Int) * c > 2 ^ 48)) = false := by
            have : (2 : Int) ^ 48 = 281474976710656 := by decide
            simp only [Bool.or_eq_false_iff, decide_eq_false_iff_not]
            omega
          have hlen : es.length = l.toNat := by rw [hes]; simp
          obtain ⟨h1, h2, h3⟩ := H.alloc (B := .ds e y.size es) (o := .cells (zrepV y c.toNat).toArray e (0, 0)) (cap := c.toNat) (len := es.length)
            (fun R' ι' w' hR hι hi hb => .ds e y.size es w.heap.size c.toNat (zrepV y c.toNat) hi (.of hb) (by rw [zrepV_length, hzl]) (by omega) (by simp only [maxLen]; omega) hk0
              (fun i x hx => by
                rw [hes, List.getElem?_replicate] at hx
                split at hx
                · obtain rfl := Option.some.inj hx
                  rw [zdat_cells y hzo]
                  simp [hzl]
                · cases hx)
              (fun u hu => zrep_one y _ u (List.mem_of_mem_take hu))
              (fun i x j d u hx hd hu => by
                rw [hes, List.getElem?_replicate] at hx
                split at hx
                · rename_i hil
                  obtain rfl := Option.some.inj hx
                  rw [zdat_cells y hzo, List.getElem?_map, Option.map_eq_some_iff] at hd
                  obtain ⟨sc, hsc, rfl⟩ := hd
                  have hj : j < y.zero.length := (List.getElem?_eq_some_iff.1 hsc).1
                  have hb2 := mul_lt (k := y.size) hil
                  have hb3 : l.toNat * y.size ≤ c.toNat * y.size := Nat.mul_le_mul_right _ (by omega)
                  rw [zrepV_get y _ _ (by rw [hzl]; omega), ← hzl, Nat.mul_comm, Nat.mul_add_mod, Nat.mod_eq_of_lt hj, List.getElem?_map, hsc] at hu
                  simp only [Option.map_some, Option.some.injEq] at hu
                  rw [← hu]
                  exact .s sc (hzok sc (List.mem_iff_getElem?.2 ⟨_, hsc⟩))
                · cases hx))
          refine ⟨.slice (some ⟨w.heap.size, 0, none⟩) l.toNat c.toNat, _, _, ?_, h1, by rw [← hlen]; exact .row _ _ _ _ _ (by simp [upd])⟩
          have hcond : (decide (c < 0) || decide ((ie.bytes : Int) * c > 2 ^ 48) || decide (l < 0) || decide (l > c)) = false := by
            rw [htl]
            simp
            omega
          rw [hlv, hcv]
          have hask : (askRoom (c.toNat * ie.bytes)).run P w = .ok () w := by
            unfold askRoom
            split
            · simp [mark, Sem.run]
            · simp
          simp only [Instr.makeSlice, Sem.run_bind, run_underlying hu, Result.andThen_ok, asInt, asIntOf, Sem.run_pure, typeInfo, run_program, hie, hwl, hwc, hcond, Bool.false_eq_true, if_false, hask, sizeOf_run hie, hse]
          by_cases h00 : c.toNat * y.size = 0
          · have hc0 : c.toNat = 0 := by
              rcases Nat.mul_eq_zero.1 h00 with h | h
              · exact h
              · omega
            simp only [hc0, Nat.zero_mul, if_true, Sem.run_bind, Sem.run_pure, Result.andThen_ok]
            have e1 : (Array.range 0).map ((#[] : Array Value)[· % (#[] : Array Value).size]!) = (zrepV y 0).toArray := by simp [zrepV]
            rw [e1]
            simp only [newRow, newObj]
            rfl
          · rw [if_neg h00]
            have e1 := range_zero y c.toNat hzo
            rw [hzl] at e1
            simp only [Sem.run_bind, zeroValue, typeInfo, run_program, hie, Sem.run_pure, Result.andThen_ok, hze, e1, newRow, newObj]
            rfl
        split at h
        · rename_i hsame
          have hlc := sameOp_eval hsame hlv hcv
          split at h
          · rename_i es hes
            simp only [Option.some.injEq, Prod.mk.injEq] at h
            obtain ⟨rfl, rfl⟩ := h
            simp only [Ar.real] at hes
            split at hes
            · rename_i hcb
              obtain rfl := Option.some.inj hes
              exact main (by omega) (by omega) hcb.2 (by rw [hlc])
            · cases hes
          · cases h
        · split at h
          · rename_i hes _
            simp only [Option.some.injEq, Prod.mk.injEq] at h
            obtain ⟨rfl, rfl⟩ := h
            simp only [Ar.real] at hes
            split at hes
            · rename_i hcb
              exact main (Int.le_refl 0) hcb.1 hcb.2 (by simp)
            · cases hes
          · cases h
      · cases h
    · cases h
  · cases h

/-- The bytes of a text. -/
def strBytesOp (A : Ar) (τ : Tab) (S : St) (s d : TypeId) (x : AV) : Option (AV × St) := match x, kindOf τ s, kindOf τ d with
  | .d (.s (.str l)), .string, .slice e => (match kindOf τ e with
    | .int .u8 => some (.row S.fr 1, S.new (.ds e 1 (A.bytesD l)))
    | _ => none)
  | _, _, _ => none

theorem strBytes_run (hτ : TabOK P τ) (H : Rel X L w0 nt ι S a w) {s d : TypeId} {x z : AV} {xv : Value} {S' : St} (hx : RepV (rdOf L ι S.h w) ι x xv) (h : strBytesOp Ar.real τ S s d x = some (z, S')) :
    ∃ v w' ι', (convert s d xv).run P w = .ok v w' ∧ Rel X L w0 nt ι' S' a w' ∧ RepV (rdOf L ι' S'.h w') ι' z v := by
  unfold strBytesOp at h
  split at h
  · rename_i l e hs hd
    split at h
    · rename_i he
      simp only [Option.some.injEq, Prod.mk.injEq] at h
      obtain ⟨rfl, rfl⟩ := h
      obtain ⟨d1, i1, y1, _, _, hu1, _, _, hk1⟩ := kindOf_run hτ hs (fun _ _ => trivial) (by simp)
      obtain ⟨d2, i2, y2, _, _, hu2, _, _, hk2⟩ := kindOf_run hτ hd (fun _ _ => trivial) (by simp)
      obtain ⟨d3, i3, y3, _, _, hu3, _, _, hk3⟩ := kindOf_run hτ he (fun _ _ => trivial) (by simp)
      simp only [TK.ok] at hk1 hk2 hk3
      subst hk1; subst hk2; subst hk3
      have hlo : l.length ≤ maxLen := rep_ok hx
      obtain rfl := rep_s hx
      have hsz : (ByteArray.mk l.toArray).size = l.length := str_size l
      have run := run_bytes_of_string (P := P) w s d e ⟨l.toArray⟩ hu1 hu2 hu3
      have hge := grownCap_ge w l.length 0 e
      have hcm := grownCap_le_maxLen w l.length 0 e hlo
      rw [hsz] at run
      generalize grownCap w l.length 0 e = cap at run hge hcm
      have hrow : bytesRow ⟨l.toArray⟩ cap = ((l.map fun b => Value.int .u8 b.toNat) ++ (List.replicate (cap - l.length) (Value.int .u8 0))).toArray := by
        apply Array.ext'
        simp [bytesRow, hsz]
      rw [hrow] at run
      have hlen : ((l.map fun b => Value.int .u8 b.toNat) ++ (List.replicate (cap - l.length) (Value.int .u8 0))).length = cap := by simp; omega
      obtain ⟨ι', h1, h2⟩ := H.fresh (w' := w.drew.alloc (.cells ((l.map fun b => Value.int .u8 b.toNat) ++ (List.replicate (cap - l.length) (Value.int .u8 0))).toArray e
          (((l.map fun b => Value.int .u8 b.toNat) ++ (List.replicate (cap - l.length) (Value.int .u8 0))).toArray.size, ((l.map fun b => Value.int .u8 b.toNat) ++ (List.replicate (cap - l.length) (Value.int .u8 0))).toArray.size + 1)))
        (n0 := none) (loc := .blk w.heap.size cap l.length) (B := .ds e 1 (Ar.real.bytesD l)) (z := .row S.fr 1) (v := .slice (some ⟨w.heap.size, 0, none⟩) l.length cap)
        (fun b hb _ => heap_alloc_old w.drew _ b hb) (fun b c l h => by cases h; exact .inl (Nat.le_refl _)) rfl rfl rfl (by simp)
        (fun R' ι' hR hι hi => by
          refine .ds e 1 _ w.heap.size cap _ (by simpa [Ar.real] using hi) ⟨_, heap_alloc_new w.drew _, .inr (by simp)⟩ (by rw [hlen]; omega) (by simp [Ar.real]; omega) hcm (by decide) (fun i x hx => ?_) (fun u hu => ?_) (fun i x j c v hx hc hv => ?_)
          · simp only [Ar.real, List.getElem?_map, Option.map_eq_some_iff] at hx
            obtain ⟨b, _, rfl⟩ := hx
            rfl
          · have := List.mem_of_mem_take hu
            simp only [List.mem_append, List.mem_map, List.mem_replicate] at this
            rcases this with ⟨b, _, rfl⟩ | ⟨_, rfl⟩ <;> rfl
          · simp only [Ar.real, List.getElem?_map, Option.map_eq_some_iff] at hx
            obtain ⟨b, hb, rfl⟩ := hx
            cases j with
            | zero =>
              simp only [Dat.cells, List.getElem?_cons_zero, Option.some.injEq] at hc
              subst hc
              have hil := (List.getElem?_eq_some_iff.1 hb).1
              rw [Nat.mul_one, Nat.add_zero, List.getElem?_append_left (by simpa using hil), List.getElem?_map, hb] at hv
              simp only [Option.map_some, Option.some.injEq] at hv
              subst hv
              exact .s (.int .u8 _) (ok_byte b)
            | succ j => simp [Dat.cells] at hc)
        (fun R' ι' hi => .row _ _ _ _ _ hi)
      exact ⟨_, _, ι', run, h1, h2⟩
    · cases h
  · cases h

/-- Operations with an effect. -/
def effOp (A : Ar) (τ : Tab) (S : St) : Op → Option (AV × St)
  | .alloc t => allocOp τ S t
  | .box t x => boxOp τ S t (evl S x)
  | .buildSlice t n parts => buildSliceOp τ S t n (evps S parts.toList)
  | .makeSlice t l c => makeSliceOp A τ S t l c
  | .convert s d x => strBytesOp A τ S s d (evl S x)
  | .store t p x => (match sizeAt τ t with
    | 0 => none
    | _ + 1 => (match storeOp A τ S t (evl S p) (evl S x) with
      | some S' => some (.tup [], S')
      | none => none))
  | .call c => (match c.callee, c.argTypes.toList, c.args.toList with
    | .builtin .append, [t1, t2], [s, x] => appendOp A τ S t1 t2 (evl S s) (evl S x)
    | _, _, _ => none)
  | _ => none

theorem effOp_run (hτ : TabOK P τ) (H : Rel X L w0 nt ι S a w) {o : Oper} {z : AV} {S' : St} (h : effOp Ar.real τ S o.op = some (z, S')) :
    ∃ v w' ι', ((execOp a.eval o).run P w = .ok (.value v) w' ∨ ((execOp a.eval o).run P w = .ok .skip w' ∧ v = undef)) ∧ Rel X L w0 nt ι' S' a w' ∧ RepV (rdOf L ι' S'.h w') ι' z v := by
  have lift : ∀ {s : Sem Value}, execOp a.eval o = (do pure (.value (← s))) → (∃ v w' ι', s.run P w = .ok v w' ∧ Rel X L w0 nt ι' S' a w' ∧ RepV (rdOf L ι' S'.h w') ι' z v) →
      ∃ v w' ι', ((execOp a.eval o).run P w = .ok (.value v) w' ∨ ((execOp a.eval o).run P w = .ok .skip w' ∧ v = undef)) ∧ Rel X L w0 nt ι' S' a w' ∧ RepV (rdOf L ι' S'.h w') ι' z v := by
    intro s he ⟨v, w', ι', h1, h2, h3⟩
    exact ⟨v, w', ι', .inl (by rw [he]; simp [Sem.run_bind, h1]), h2, h3⟩
  unfold effOp at h
  split at h
  · rename_i t ho
    exact lift (by simp only [execOp, ho]) (alloc_run hτ H h)
  · rename_i t x ho
    exact lift (by simp only [execOp, ho]) (box_run H (H.evl x) h)
  · rename_i t n parts ho
    refine lift (s := Instr.buildSlice t n (parts.map fun (i, x) => (i, a.eval x))) (by simp only [execOp, ho]) ?_
    rw [evps_eq] at h
    have := buildSlice_run (P := P) (w := w) hτ H (vparts := parts.toList.map fun p => (p.1, a.eval p.2)) (by simp) (fun j p q hp hq => by
      rw [List.getElem?_map, Option.map_eq_some_iff] at hp hq
      obtain ⟨x, hx, rfl⟩ := hp
      obtain ⟨x', hx', rfl⟩ := hq
      rw [hx] at hx'
      cases hx'
      exact ⟨rfl, H.evl _⟩) h
    have e : parts.map (fun (i, x) => (i, a.eval x)) = (parts.toList.map fun p => (p.1, a.eval p.2)).toArray := by
      apply Array.ext'
      simp
    rw [e]
    exact this
  · rename_i t l c ho
    exact lift (by simp only [execOp, ho]) (makeSlice_run hτ H h)
  · rename_i s d x ho
    exact lift (by simp only [execOp, ho]) (strBytes_run hτ H (H.evl x) h)
  · rename_i t p x ho
    split at h
    · cases h
    · rename_i m hm
      split at h
      · rename_i S2 hS
        simp only [Option.some.injEq, Prod.mk.injEq] at h
        obtain ⟨rfl, rfl⟩ := h
        obtain ⟨w', ι', h1, h2⟩ := store_run hτ H (H.evl p) (H.evl x) (by omega) hS
        refine ⟨undef, w', ι', .inr ⟨?_, rfl⟩, h2, ?_⟩
        · simp [execOp, ho, Sem.run_bind, h1]
        · have := RepV.tup (R := rdOf L ι' S2.h w') (ι := ι') [] [] rfl (by simp)
          exact this
      · cases h
  · rename_i c ho
    split at h
    · rename_i t1 t2 s x hcal hts hxs
      obtain ⟨v, w', ι', h1, h2, h3⟩ := append_run (P := P) (w := w) (ty := o.type) hτ H (H.evl s) (H.evl x) h
      refine ⟨v, w', ι', .inl ?_, h2, h3⟩
      have e1 : c.argTypes = #[t1, t2] := by apply Array.ext'; simpa using hts
      have e2 : c.args = #[s, x] := by apply Array.ext'; simpa using hxs
      simp only [execOp, ho, resolve, hcal, Sem.run_bind, Sem.run_pure, Result.andThen_ok, invoke, e1, e2, builtin, List.map_toArray, List.map_cons, List.map_nil, h1]
    · cases h
  · cases h

/-- A step: an operation that is no call of a Go function. -/
def stepOp (A : Ar) (τ : Tab) (nt : Nat) (S : St) (o : Oper) : Option St :=
  match (match o.dst with
    | some d => Nat.blt d nt
    | none => true), pureOp A τ S o.op with
  | true, some z => some (S.put o.dst z)
  | true, none => (match effOp A τ S o.op with
    | some (z, S') => some (S'.put o.dst z)
    | none => none)
  | false, _ => none

theorem stepOp_wp (hτ : TabOK P τ) (H : Rel X L w0 nt ι S a w) {o : Oper} {S' : St} (h : stepOp Ar.real τ nt S o = some S') {K : Act → World → Prop} {Q : Exit → Act → World → Prop}
    (hK : ∀ ι' a' w', Rel X L w0 nt ι' S' a' w' → K a' w') : o.wp P a w K Q := by
  unfold stepOp at h
  have hd : (match o.dst with
    | some d => Nat.blt d nt
    | none => true) = true → ∀ n, o.dst = some n → n < nt := by
    intro h n hn
    rw [hn] at h
    simp only [Nat.blt, Nat.ble_eq] at h
    exact h
  split at h
  · rename_i z hdst hz
    obtain rfl := Option.some.inj h
    obtain ⟨v, hv, hr⟩ := pureOp_run hτ H hz
    unfold Oper.wp
    rw [hv]
    exact hK _ _ _ (H.put (hd hdst) hr)
  · rename_i hdst hz
    split at h
    · rename_i z S2 hS
      obtain rfl := Option.some.inj h
      obtain ⟨v, w', ι', h1, h2, h3⟩ := effOp_run hτ H hS
      unfold Oper.wp
      rcases h1 with h1 | ⟨h1, rfl⟩
      · rw [h1]
        exact hK _ _ _ (h2.put (hd hdst) h3)
      · rw [h1]
        exact hK _ _ _ (h2.put (hd hdst) h3)
    · cases h
  · cases h

end
end Go.Ua
