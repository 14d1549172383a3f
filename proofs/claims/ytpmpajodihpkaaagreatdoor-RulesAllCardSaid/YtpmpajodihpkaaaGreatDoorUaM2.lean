/- The library of this claim and its walks, part 2, joined out of smaller texts. No statement stands in it. -/
import Derived.Test.YtpmpajodihpkaaaGreatDoorUaM1
import Derived.Laws.Cells
import Derived.Laws.Rows
import Derived.Laws.StructEq
import Derived.Laws.Closers25b
set_option linter.unusedSimpArgs false
set_option linter.unusedVariables false
namespace Go.Ua
open Go
def Sc.okB : Sc → Bool
 | .int k n => (match decide (k.min ≤ n) with
   | true => decide (n ≤ k.max)
   | false => false)
 | .str s => Nat.ble s.length 9223372036854775807
 | _ => true
theorem Sc.ok_of {x : Sc} (h : x.okB = true) : x.ok := by
 cases x with
 | int k n =>
   simp only [Sc.okB] at h
   split at h
   · rename_i h1
     exact ⟨of_decide_eq_true h1, of_decide_eq_true h⟩
   · cases h
 | str s => exact Nat.le_of_ble_eq_true h
 | _ => trivial
theorem ok_wrap (k : IntKind) (n : Int) : (Sc.int k (k.wrap n)).ok := wrap_within k n
theorem ok_len {n : Nat} (h : n ≤ maxLen) : (Sc.int .i64 (n : Int)).ok := by
 simp only [maxLen] at h
 simp only [Sc.ok, IntKind.min, IntKind.max, IntKind.bits, IntKind.signed]
 simp
 omega
theorem ok_byte (c : UInt8) : (Sc.int .u8 (c.toNat : Int)).ok := by
 have := c.toNat_lt
 simp only [Sc.ok, IntKind.min, IntKind.max, IntKind.bits, IntKind.signed]
 simp
 omega
inductive TK where
 | bool | int (k : IntKind) | string | slice (e : TypeId) | struct (fs : List (Nat × TypeId)) | array (n : Nat) (e : TypeId)
 | pointer (e : TypeId) | map (k v : TypeId) | func | iface | other
structure Ty where
 k : TK
 size : Nat
 bytes : Nat
 zero : List Sc
 eq : Bool := false
def TK.isAgg : TK → Bool
 | .struct _ | .array _ _ => true
 | _ => false
abbrev Tab := List (TypeId × Ty)
def Ty.zdat (y : Ty) : Dat := if y.k.isAgg then .agg (y.zero.map .s) else match y.zero with
 | [x] => .s x
 | _ => .agg []
def Ty.zval (y : Ty) : Value := if y.k.isAgg then .agg (y.zero.map Sc.val).toArray else match y.zero with
 | [x] => x.val
 | _ => .agg #[]
def TK.ok (d : TypeDesc) : TK → Prop
 | .bool => d = .bool
 | .int k => d = .int k
 | .string => d = .string
 | .slice e => d = .slice e
 | .struct fs => ∃ fields, d = .struct fields ∧ fields.toList.map (fun f => (f.offset, f.type)) = fs
 | .array n e => d = .array n e
 | .pointer e => d = .pointer e
 | .map k v => d = .map k v
 | .func => ∃ a b c, d = .func a b c
 | .iface => ∃ ms, d = .interface ms
 | .other => False
def TyOK (P : Program) (t : TypeId) (y : Ty) : Prop :=
 ∃ d i, P.underlying t = some d ∧ P.info? t = some i ∧ i.size = y.size ∧ i.bytes = y.bytes ∧ i.zero = some y.zval ∧ y.zero.length = y.size ∧ y.k.ok d ∧ (∀ x, x ∈ y.zero → x.ok) ∧
   (y.eq = true → P.underlying t = some (.struct (P.fieldsOf t)) ∧ P.stoodInHeld t = false ∧ P.eqGuardType P.depth t = false ∧ ((P.fieldsOf t).toList.all fun f => f.name != "_") = true)
theorem TyOK.of {P : Program} {t : TypeId} {y : Ty} {d : TypeDesc} (hu : P.underlying t = some d) (hi : (P.info? t).map (fun i => (i.size, i.bytes, i.zero)) = some (y.size, y.bytes, some y.zval)) (hz : y.zero.length = y.size) (hk : y.k.ok d)
   (he : y.eq = true → P.underlying t = some (.struct (P.fieldsOf t)) ∧ P.stoodInHeld t = false ∧ P.eqGuardType P.depth t = false ∧ ((P.fieldsOf t).toList.all fun f => f.name != "_") = true)
   (hzo : (y.zero.all Sc.okB) = true := by rfl) : TyOK P t y := by
 cases hq : P.info? t with
 | none => rw [hq] at hi; cases hi
 | some i =>
   rw [hq] at hi
   simp only [Option.map_some, Option.some.injEq, Prod.mk.injEq] at hi
   exact ⟨d, i, hu, hq, hi.1, hi.2.1, hi.2.2, hz, hk, fun x hx => Sc.ok_of (List.all_eq_true.1 hzo x hx), he⟩
def TabOK (P : Program) : Tab → Prop
 | [] => True
 | p :: r => TyOK P p.1 p.2 ∧ TabOK P r
theorem TabOK.get {P : Program} {τ : Tab} (h : TabOK P τ) {t : TypeId} {y : Ty} (ht : look t τ = some y) : TyOK P t y := by
 induction τ with
 | nil => simp [look] at ht
 | cons p r ih =>
   simp only [look_cons] at ht
   by_cases e : p.1 = t
   · rw [if_pos e] at ht
     obtain rfl := Option.some.inj ht
     exact e ▸ h.1
   · rw [if_neg e] at ht
     exact ih h.2 ht
theorem TK.isAgg_run {P : Program} {t : TypeId} {d : TypeDesc} {k : TK} (hu : P.underlying t = some d) (hk : k.ok d) (w : World) : (Go.isAgg t).run P w = .ok k.isAgg w := by
 unfold Go.isAgg
 rw [Sem.run_bind, run_underlying hu w]
 cases k <;> simp only [TK.ok] at hk
 case struct fs => obtain ⟨f, rfl, _⟩ := hk; rfl
 case func => obtain ⟨_, _, _, rfl⟩ := hk; rfl
 case iface => obtain ⟨_, rfl⟩ := hk; rfl
 all_goals (subst hk; rfl)
theorem sizeOf_run {P : Program} {t : TypeId} {i : TypeInfo} (hi : P.info? t = some i) (w : World) : (sizeOf t).run P w = .ok i.size w := by
 simp [sizeOf, typeInfo, hi]
section
variable {X L : Nat → Prop} {w0 : W0} {w : World} {nt : Nat} {ι : Io} {S : St} {a : Act} {P : Program} {τ : Tab}
def ofConst : Value → AV
 | .bool b => .d (.s (.bool b))
 | .int k n => (match Sc.okB (.int k n) with
   | true => .d (.s (.int k n))
   | false => .any)
 | .string s => (match Sc.okB (.str s.data.toList) with
   | true => .d (.s (.str s.data.toList))
   | false => .any)
 | .pointer none => .d (.s .ptr0)
 | .slice none 0 0 => .d (.s .sl0)
 | .map none => .d (.s .map0)
 | .nilFunc => .d (.s .fn0)
 | .nilIface => .d (.s .if0)
 | _ => .any
def evl (S : St) : Operand → AV
 | .tmp t => match look t S.t with
   | some x => x
   | none => .any
 | .const v => ofConst v
 | .global _ => .any
 | .func f => .d (.s (.fn f))
theorem ofConst_rep (R : Rd) (v : Value) : RepV R ι (ofConst v) v := by
 unfold ofConst
 split
 · exact .d _ _ (.s (.bool _) trivial)
 · split
   · exact .d _ _ (.s (.int _ _) (Sc.ok_of (by assumption)))
   · exact .any _
 · split
   · exact .d _ _ (.s (.str _) (Sc.ok_of (by assumption)))
   · exact .any _
 · exact .d _ _ (.s .ptr0 trivial)
 · exact .d _ _ (.s .sl0 trivial)
 · exact .d _ _ (.s .map0 trivial)
 · exact .d _ _ (.s .fn0 trivial)
 · exact .d _ _ (.s .if0 trivial)
 · exact .any _
theorem Rel.evl (H : Rel X L w0 nt ι S a w) (x : Operand) : RepV (rdOf L ι S.h w) ι (evl S x) (a.eval x) := by
 cases x with
 | tmp t =>
   simp only [Ua.evl, Act.eval]
   split
   · rename_i x hx; exact H.tm t x hx
   · exact .any _
 | const v => exact ofConst_rep _ v
 | global g => exact .any _
 | func f => exact .d _ _ (.s (.fn f) trivial)
theorem rep_d {R : Rd} {x : Dat} {v : Value} (h : RepV R ι (.d x) v) : RepD R x v := by cases h; assumption
theorem RepD.sc {R : Rd} {x : Sc} {v : Value} (h : RepD R (.s x) v) : v = x.val := by cases h; rfl
theorem rep_ok {R : Rd} {x : Sc} {v : Value} (h : RepV R ι (.d (.s x)) v) : x.ok := by cases h with | d _ _ h => cases h; assumption
theorem rep_s {R : Rd} {x : Sc} {v : Value} (h : RepV R ι (.d (.s x)) v) : v = x.val := by cases h with | d _ _ h => cases h; rfl
def cellsAt (S : St) : AV → Option (List AV)
 | .ptr n i off k => match look n S.h with
   | some (.cs _ cells) => some (cells.drop (i * k + off))
   | some (.ds _ k' es) => if k = k' then (match es[i]? with
     | some e => some ((e.cells.drop off).map .d)
     | none => none) else none
   | some (.xs _ k' m es cells) => if k = k' then (match Nat.beq i m with
     | true => some (cells.drop off)
     | false => none) else none
   | some (.mp _) => none
   | none => none
 | .d (.vref cs) => some (cs.map .d)
 | _ => none
theorem cellsAt_rep (H : HRel X L w0 ι S.h S.fr w) {p : AV} {v : Value} (hp : RepV (rdOf L ι S.h w) ι p v) {l : List AV} (hl : cellsAt S p = some l) :
   ∃ b o, v = .pointer (some ⟨b, o, none⟩) ∧ ∃ vs : List Value, vs.length = l.length ∧ (∀ u ∈ vs, u.oneCell' = true) ∧
     (∀ (j : Nat) (u : Value), vs[j]? = some u → w.cell? ⟨b, o + j, none⟩ = some u) ∧ ∀ (j : Nat) (x : AV) (u : Value), l[j]? = some x → vs[j]? = some u → RepV (rdOf L ι S.h w) ι x u := by
 unfold cellsAt at hl
 split at hl
 · rename_i n i off k
   cases hp with
   | ptr _ _ _ _ b c l' hi =>
   refine ⟨b, i * k + off, rfl, ?_⟩
   split at hl
   · rename_i T cells hlook
     obtain rfl := Option.some.inj hl
     cases H.hp n _ hlook with
     | cs _ _ b' cap l'' cur hi' hb hlen h1 h =>
     rw [hi] at hi'; cases hi'
     refine ⟨cur.drop (i * k + off), by simp [hlen], fun u hu => h1 u (List.mem_of_mem_drop hu), fun j u hu => ?_, fun j x u hx hu => ?_⟩
     · rw [cell_of_row w b _ _ _ _ hb]
       rw [List.getElem?_drop] at hu
       simpa using hu
     · rw [List.getElem?_drop] at hx hu
       exact h _ _ _ hx hu
   · rename_i E k' es hlook
     split at hl
     · rename_i hk; subst hk
       split at hl
       · rename_i e he
         obtain rfl := Option.some.inj hl
         cases H.hp n _ hlook with
         | ds0 => simp at he
         | ds _ _ _ b' cap cur hi' hb hlen hc hm hk0 hk h1 h =>
         obtain ⟨fz, hb, _⟩ := hb
         rw [hi] at hi'; cases hi'
         have hek := hk i e he
         have hilt : i < es.length := (List.getElem?_eq_some_iff.1 he).1
         have hle : (i + 1) * k ≤ es.length * k := Nat.mul_le_mul_right k hilt
         have hle2 : es.length * k ≤ c * k := Nat.mul_le_mul_right k hc
         rw [Nat.add_mul, Nat.one_mul] at hle
         have hd : ∀ j u, ((cur.drop (i * k + off)).take (k - off))[j]? = some u → j < k - off ∧ cur[i * k + (off + j)]? = some u := by
           intro j u hu
           rw [List.getElem?_take] at hu
           split at hu
           · rename_i hj
             rw [List.getElem?_drop] at hu
             exact ⟨hj, by rw [← Nat.add_assoc]; exact hu⟩
           · cases hu
         refine ⟨(cur.drop (i * k + off)).take (k - off), by simp [hlen, hek]; omega, fun u hu => ?_, fun j u hu => ?_, fun j x u hx hu => ?_⟩
         · obtain ⟨j, hj⟩ := List.mem_iff_getElem?.1 hu
           obtain ⟨hj1, hj2⟩ := hd j u hj
           refine h1 u (List.mem_iff_getElem?.2 ⟨i * k + (off + j), ?_⟩)
           rw [List.getElem?_take, if_pos (by omega)]
           exact hj2
         · obtain ⟨hj1, hj2⟩ := hd j u hu
           rw [cell_of_row w b _ _ _ _ hb, Nat.add_assoc]
           simpa using hj2
         · obtain ⟨hj1, hj2⟩ := hd j u hu
           simp only [List.getElem?_map, List.getElem?_drop, Option.map_eq_some_iff] at hx
           obtain ⟨c, hx, rfl⟩ := hx
           exact .d _ _ (h i e (off + j) c u he hx hj2)
       · cases hl
     · cases hl
   · rename_i E k' m es cells hlook
     split at hl
     · rename_i hk; subst hk
       split at hl
       · rename_i hbq
         obtain rfl := Nat.eq_of_beq_eq_true hbq
         obtain rfl := Option.some.inj hl
         cases H.hp n _ hlook with
         | xs0 _ _ _ _ hi' => rw [hi] at hi'; cases hi'
         | xs _ _ _ _ _ b' cap cur hi' hb hlen hc hm hk0 hlm hkl hk h1 h h2 =>
         obtain ⟨fz, hb, _⟩ := hb
         rw [hi] at hi'; cases hi'
         have hle2 : es.length * k ≤ c * k := Nat.mul_le_mul_right k hc
         have hle : (i + 1) * k = es.length * k := by rw [hlm]
         rw [Nat.add_mul, Nat.one_mul] at hle
         have hd : ∀ j u, ((cur.drop (i * k + off)).take (k - off))[j]? = some u → j < k - off ∧ cur[i * k + (off + j)]? = some u := by
           intro j u hu
           rw [List.getElem?_take] at hu
           split at hu
           · rename_i hj
             rw [List.getElem?_drop] at hu
             exact ⟨hj, by rw [← Nat.add_assoc]; exact hu⟩
           · cases hu
         refine ⟨(cur.drop (i * k + off)).take (k - off), by simp [hlen, hkl]; omega, fun u hu => ?_, fun j u hu => ?_, fun j x u hx hu => ?_⟩
         · obtain ⟨j, hj⟩ := List.mem_iff_getElem?.1 hu
           obtain ⟨hj1, hj2⟩ := hd j u hj
           refine h1 u (List.mem_iff_getElem?.2 ⟨i * k + (off + j), ?_⟩)
           rw [List.getElem?_take, if_pos (by omega)]
           exact hj2
         · obtain ⟨hj1, hj2⟩ := hd j u hu
           rw [cell_of_row w b _ _ _ _ hb, Nat.add_assoc]
           simpa using hj2
         · obtain ⟨hj1, hj2⟩ := hd j u hu
           rw [List.getElem?_drop] at hx
           exact h2 (off + j) x u hx hj2
       · cases hl
     · cases hl
   · cases hl
   · cases hl
 · rename_i cs
   obtain rfl := Option.some.inj hl
   cases rep_d hp with
   | vref _ b o f hr h =>
   refine ⟨b, o, rfl, (List.range cs.length).map f, by simp, fun u hu => ?_, fun j u hu => ?_, fun j x u hx hu => ?_⟩
   · simp only [List.mem_map, List.mem_range] at hu
     obtain ⟨j, hj, rfl⟩ := hu
     exact (hr j cs[j] (List.getElem?_eq_getElem hj)).2.2
   · simp only [List.getElem?_map, Option.map_eq_some_iff] at hu
     obtain ⟨j', hj', rfl⟩ := hu
     have hj2 := List.getElem?_eq_some_iff.1 hj'
     obtain ⟨hlt, rfl⟩ := hj2
     simp only [List.length_range] at hlt
     simp only [List.getElem_range]
     exact (hr j cs[j] (List.getElem?_eq_getElem hlt)).2.1
   · simp only [List.getElem?_map, Option.map_eq_some_iff] at hu hx
     obtain ⟨j', hj', rfl⟩ := hu
     obtain ⟨c, hc, rfl⟩ := hx
     obtain ⟨hlt, rfl⟩ := List.getElem?_eq_some_iff.1 hj'
     simp only [List.getElem_range]
     exact .d _ _ (h j c hc)
 · cases hl
def unDs : List AV → Option (List Dat)
 | [] => some []
 | .d x :: r => match unDs r with
   | some l => some (x :: l)
   | none => none
 | _ => none
def mkAgg (l : List AV) : AV := match unDs l with
 | some ds => .d (.agg ds)
 | none => .agg l
theorem unDs_some {l : List AV} {ds : List Dat} (h : unDs l = some ds) : l = ds.map .d := by
 induction l generalizing ds with
 | nil => simp [unDs] at h; subst h; rfl
 | cons x r ih =>
   cases x with
   | d x =>
     simp only [unDs] at h
     split at h
     · rename_i l hl
       obtain rfl := Option.some.inj h
       simp [ih hl]
     · cases h
   | _ => simp [unDs] at h
theorem mkAgg_rep {R : Rd} {l : List AV} {vs : List Value} (hl : l.length = vs.length) (h1 : ∀ v ∈ vs, v.oneCell' = true)
   (h : ∀ (i : Nat) (c : AV) (v : Value), l[i]? = some c → vs[i]? = some v → RepV R ι c v) : RepV R ι (mkAgg l) (.agg vs.toArray) := by
 unfold mkAgg
 split
 · rename_i ds hds
   have := unDs_some hds
   subst this
   refine .d _ _ (.agg ds vs (by simpa using hl) h1 fun i c v hc hv => ?_)
   exact rep_d (h i (.d c) v (by simp [hc]) hv)
 · exact .agg l vs hl h1 h
def loadAV (τ : Tab) (S : St) (t : TypeId) (p : AV) : Option AV :=
 match look t τ with
 | none => none
 | some y => match cellsAt S p with
   | none => none
   | some l => if y.size ≤ l.length then (if y.k.isAgg then some (mkAgg (l.take y.size)) else l[0]?) else none
theorem load_run (hτ : TabOK P τ) (H : HRel X L w0 ι S.h S.fr w) {t : TypeId} {p x : AV} {v : Value} (hp : RepV (rdOf L ι S.h w) ι p v) (hx : loadAV τ S t p = some x) :
   ∃ u, (Instr.loadAt t v).run P w = .ok u w ∧ RepV (rdOf L ι S.h w) ι x u := by
 unfold loadAV at hx
 split at hx
 · cases hx
 · rename_i y hy
   split at hx
   · cases hx
   · rename_i l hl
     split at hx
     · rename_i hle
       obtain ⟨d, i, hu, hi, hs, _, _, _, hk, _, _⟩ := hτ.get hy
       obtain ⟨b, o, rfl, vs, hlen, h1, hc, hrep⟩ := cellsAt_rep H hp hl
       split at hx
       · rename_i hagg
         obtain rfl := Option.some.inj hx
         refine ⟨.agg (vs.take y.size).toArray, ?_, mkAgg_rep (by simp [hlen]) (fun v hv => h1 v (List.mem_of_mem_take hv)) fun i c v hc hv => ?_⟩
         · have hll : (vs.take y.size).length = y.size := by simp; omega
           have hrun := run_loadCells_list (P := P) w ⟨b, o, none⟩ (vs.take y.size) (fun j u hu => by
             rw [Addr.add_lit]
             rw [List.getElem?_take] at hu
             split at hu
             · exact hc j u hu
             · cases hu)
           rw [hll] at hrun
           simp only [Instr.loadAt, Instr.sureAddr, Sem.run_bind, Sem.run_pure, Result.andThen_ok, loadVar, TK.isAgg_run hu hk, hagg, if_true, sizeOf_run hi, hs, hrun]
         · rw [List.getElem?_take] at hc hv
           split at hv
           · rename_i hlt; rw [if_pos hlt] at hc; exact hrep _ _ _ hc hv
           · cases hv
       · rename_i hagg
         have hagg' : y.k.isAgg = false := by simpa using hagg
         have h0 : 0 < l.length := (List.getElem?_eq_some_iff.1 hx).1
         have hv0 : vs[0]? = some vs[0] := List.getElem?_eq_getElem (by omega)
         refine ⟨vs[0], ?_, hrep 0 x _ hx hv0⟩
         have := hc 0 _ hv0
         simp only [Nat.add_zero] at this
         simp [Instr.loadAt, Instr.sureAddr, Sem.run_bind, Sem.run_pure, Result.andThen_ok, loadVar, TK.isAgg_run hu hk, hagg', Go.load, Sem.run, this]
     · cases hx
end
end Go.Ua
