/- The library of this claim and its walks, part 5, joined out of smaller texts. No statement stands in it. -/
import Derived.Test.YtpmpajodihpkaaaGreatDoorUaM4
set_option linter.unusedSimpArgs false
set_option linter.unusedVariables false
namespace Go.Ua
open Go
section
variable {X L : Nat → Prop} {w0 : W0} {w : World} {nt : Nat} {ι : Io} {S : St} {a : Act} {P : Program} {τ : Tab} {R : Rd}
def unAV (A : Ar) (op : UnOp) (x : AV) : Option AV :=
 match op, x with
 | .not, .d (.s (.bool b)) => some (.d (.s (.bool (A.not b))))
 | .neg, .d (.s (.int k n)) => some (.d (.s (.int k (A.wrap k (A.sub 0 n)))))
 | _, _ => none
theorem un_run {op : UnOp} {x z : AV} {v : Value} (hx : RepV R ι x v) (h : unAV Ar.real op x = some z) : ∃ u, (Op.unary op v).run P w = .ok u w ∧ RepV R ι z u := by
 unfold unAV at h
 split at h
 · rename_i b
   obtain rfl := Option.some.inj h
   obtain rfl := rep_s hx
   exact ⟨.bool (!b), rfl, .d _ _ (.s (.bool _) trivial)⟩
 · rename_i k n
   obtain rfl := Option.some.inj h
   obtain rfl := rep_s hx
   exact ⟨.int k (k.wrap (0 - n)), rfl, .d _ _ (.s (.int k _) (ok_wrap _ _))⟩
 · cases h
def convAV (A : Ar) (τ : Tab) (s d : TypeId) (x : AV) : Option AV :=
 match x with
 | .d (.s (.int k n)) => (match kindOf τ s, kindOf τ d with
   | .int _, .int k' => some (.d (.s (.int k' (A.wrap k' n))))
   | _, _ => none)
 | .d (.s (.str l)) => (match kindOf τ s, kindOf τ d with
   | .string, .string => some x
   | _, _ => none)
 | _ => none
theorem conv_run (hτ : TabOK P τ) {s d : TypeId} {x z : AV} {v : Value} (hx : RepV R ι x v) (h : convAV Ar.real τ s d x = some z) :
   ∃ u, (convert s d v).run P w = .ok u w ∧ RepV R ι z u := by
 unfold convAV at h
 split at h
 · rename_i k n
   obtain rfl := rep_s hx
   split at h
   · rename_i k0 k' h1 h2
     obtain rfl := Option.some.inj h
     obtain ⟨d1, i1, y1, _, _, hu1, _, _, hk1⟩ := kindOf_run hτ h1 (fun _ _ => trivial) (by simp)
     obtain ⟨d2, i2, y2, _, _, hu2, _, _, hk2⟩ := kindOf_run hτ h2 (fun _ _ => trivial) (by simp)
     simp only [TK.ok] at hk1 hk2
     subst hk1; subst hk2
     refine ⟨.int k' (k'.wrap n), ?_, .d _ _ (.s (.int k' _) (ok_wrap _ _))⟩
     simp [convert, run_underlying hu1, run_underlying hu2, Sc.val, Conv.intToInt]
   · cases h
 · rename_i l
   obtain rfl := rep_s hx
   split at h
   · rename_i h1 h2
     obtain rfl := Option.some.inj h
     obtain ⟨d1, i1, y1, _, _, hu1, _, _, hk1⟩ := kindOf_run hτ h1 (fun _ _ => trivial) (by simp)
     obtain ⟨d2, i2, y2, _, _, hu2, _, _, hk2⟩ := kindOf_run hτ h2 (fun _ _ => trivial) (by simp)
     simp only [TK.ok] at hk1 hk2
     subst hk1; subst hk2
     refine ⟨.string ⟨l.toArray⟩, ?_, .d _ _ (.s (.str l) (rep_ok hx))⟩
     simp [convert, run_underlying hu1, run_underlying hu2, Sc.val]
   · cases h
 · cases h
def ifaceAV (τ : Tab) (t : TypeId) (x : AV) : Option AV :=
 match kindOf τ t with
 | .iface => none
 | .other => none
 | _ => (match x with
   | .d d => some (.d (.iface t d))
   | .any => none
   | x => some (.iface t x))
theorem iface_run (hτ : TabOK P τ) {t : TypeId} {x z : AV} {v : Value} (hx : RepV R ι x v) (h : ifaceAV τ t x = some z) :
   ∃ u, (Instr.makeInterface t v).run P w = .ok u w ∧ RepV R ι z u := by
 unfold ifaceAV at h
 split at h
 · cases h
 · cases h
 · rename_i hn1 hn2
   obtain ⟨d, i, y, _, _, hu, _, _, hk⟩ := kindOf_run (k := kindOf τ t) hτ rfl (fun _ _ => trivial) hn2
   have hni : ∀ ms, d ≠ .interface ms := by
     intro ms e
     subst e
     cases hkk : kindOf τ t <;> rw [hkk] at hk <;> simp [TK.ok] at hk
     exact hn1 hkk
   refine ⟨.iface t v, ?_, ?_⟩
   · unfold Instr.makeInterface
     rw [Sem.run_bind, run_underlying hu]
     simp only [Result.andThen_ok]
     first
       | rfl
       | (split
          · rename_i ms; exact absurd rfl (hni ms)
          · simp)
   · split at h
     · obtain rfl := Option.some.inj h; exact .d _ _ (.iface _ _ _ (rep_d hx))
     · cases h
     · obtain rfl := Option.some.inj h; exact .iface _ _ _ hx
def evls (S : St) : List Operand → List AV
 | [] => []
 | x :: r => evl S x :: evls S r
theorem evls_eq (S : St) (l : List Operand) : evls S l = l.map (evl S) := by
 induction l with
 | nil => rfl
 | cons x r ih => simp [evls, ih]
def fnAV (f : Fn) (cs ds : List AV) : AV := match f, cs, ds with
 | .func g, [], [] => .d (.s (.fn g))
 | f, cs, ds => .fn f cs ds
theorem fn_rep {f : Fn} {cs ds : List AV} {vs ws : List Value} (hl : cs.length = vs.length) (hl2 : ds.length = ws.length)
   (h : ∀ (i : Nat) (c : AV) (v : Value), cs[i]? = some c → vs[i]? = some v → RepV R ι c v)
   (h2 : ∀ (i : Nat) (c : AV) (v : Value), ds[i]? = some c → ws[i]? = some v → RepV R ι c v) : RepV R ι (fnAV f cs ds) (.func f vs.toArray ws.toArray) := by
 unfold fnAV
 split
 · have h1 : vs = [] := List.eq_nil_of_length_eq_zero (by simpa using hl.symm)
   have h2 : ws = [] := List.eq_nil_of_length_eq_zero (by simpa using hl2.symm)
   subst h1; subst h2
   exact .d _ _ (.s (.fn _) trivial)
 · exact .fn _ _ _ _ _ hl hl2 h h2
def fillAV (place : Nat → Option (Nat × Nat)) (cells : List AV) : List (Nat × AV) → Option (List AV)
 | [] => some cells
 | (i, v) :: rest => match place i with
   | none => none
   | some (o, n) => (match v.st with
     | true => if v.cells.length = n ∧ o + n ≤ cells.length then fillAV place (cells.take o ++ (v.cells ++ cells.drop (o + n))) rest else none
     | false => none)
theorem setCells (vs : List Value) : ∀ (cs : List Value) (o : Nat), o + vs.length ≤ cs.length →
   vs.toArray.zipIdx.foldl (fun cs (p : Value × Nat) => cs.setIfInBounds (o + p.2) p.1) cs.toArray = (cs.take o ++ (vs ++ cs.drop (o + vs.length))).toArray := by
 have key : ∀ (vs : List Value) (cs : List Value) (o k : Nat), o + k + vs.length ≤ cs.length →
     (vs.zipIdx k).foldl (fun cs (p : Value × Nat) => cs.setIfInBounds (o + p.2) p.1) cs.toArray = (cs.take (o + k) ++ (vs ++ cs.drop (o + k + vs.length))).toArray := by
   intro vs
   induction vs with
   | nil => intro cs o k h; simp
   | cons v r ih =>
     intro cs o k h
     simp only [List.length_cons] at h
     have h1 : o + k < cs.length := by omega
     simp only [List.zipIdx_cons, List.foldl_cons, List.setIfInBounds_toArray]
     rw [ih _ _ _ (by simp; omega)]
     congr 1
     apply List.ext_getElem?
     intro n
     simp only [List.length_cons]
     rcases Nat.lt_trichotomy n (o + k) with h2 | h2 | h2
     · rw [List.getElem?_append_left (by simp; omega), List.getElem?_append_left (by simp; omega), List.getElem?_take, List.getElem?_take, if_pos (by omega), if_pos h2, List.getElem?_set, if_neg (by omega)]
     · subst h2
       rw [List.getElem?_append_left (by simp; omega), List.getElem?_append_right (by simp; omega), List.getElem?_take, if_pos (by omega), List.getElem?_set]
       simp [h1, Nat.min_eq_left (Nat.le_of_lt h1)]
     · have e1 : (List.take (o + (k + 1)) (cs.set (o + k) v)).length = o + k + 1 := by simp; omega
       have e2 : (List.take (o + k) cs).length = o + k := by simp; omega
       rw [List.getElem?_append_right (l₁ := List.take (o + (k + 1)) (cs.set (o + k) v)) (by rw [e1]; omega), List.getElem?_append_right (l₁ := List.take (o + k) cs) (by rw [e2]; omega)]
       rw [e1, e2, show n - (o + k) = (n - (o + k + 1)) + 1 by omega, List.cons_append, List.getElem?_cons_succ]
       rw [List.drop_set_of_lt (by omega)]
       rw [show o + (k + 1) + r.length = o + k + (r.length + 1) by omega]
 intro cs o h
 have := key vs cs o 0 (by simpa using h)
 rw [← Array.foldl_toList, Array.toList_zipIdx]
 simpa using this
theorem fill_run {place : Nat → Option (Nat × Nat)} : ∀ {parts : List (Nat × AV)} {vparts : List (Nat × Value)} {cells out : List AV} {vcells : List Value},
   parts.length = vparts.length → (∀ (j : Nat) p q, parts[j]? = some p → vparts[j]? = some q → p.1 = q.1 ∧ RepV R ι p.2 q.2) →
   cells.length = vcells.length → (∀ u ∈ vcells, u.oneCell' = true) → (∀ (i : Nat) (c : AV) (u : Value), cells[i]? = some c → vcells[i]? = some u → RepV R ι c u) →
   fillAV place cells parts = some out →
   ∃ vout : List Value, Instr.fill place vcells.toArray vparts = some vout.toArray ∧ out.length = vout.length ∧ (∀ u ∈ vout, u.oneCell' = true) ∧
     ∀ (i : Nat) (c : AV) (u : Value), out[i]? = some c → vout[i]? = some u → RepV R ι c u := by
 intro parts
 induction parts with
 | nil =>
   intro vparts cells out vcells hl hp hcl h1 hr h
   have : vparts = [] := List.eq_nil_of_length_eq_zero (by simpa using hl.symm)
   subst this
   simp only [fillAV, Option.some.injEq] at h
   subst h
   exact ⟨vcells, rfl, hcl, h1, hr⟩
 | cons p r ih =>
   intro vparts cells out vcells hl hp hcl h1 hr h
   cases vparts with
   | nil => simp at hl
   | cons q qr =>
     obtain ⟨i, v⟩ := p
     obtain ⟨i', u⟩ := q
     obtain ⟨hi, hv⟩ := hp 0 _ _ rfl rfl
     simp only at hi hv
     subst hi
     simp only [fillAV] at h
     split at h
     · cases h
     · rename_i o n hpl
       split at h
       · rename_i hst
         split at h
         · rename_i hc
           obtain ⟨vs, hvs, hvl, hv1, hvr⟩ := hv.cells hst
           have hoc : o + vs.length ≤ vcells.length := by omega
           obtain ⟨vout, ho1, ho2⟩ := ih (vparts := qr) (vcells := vcells.take o ++ (vs ++ vcells.drop (o + vs.length))) (by simpa using hl) (fun j p q h1 h2 => hp (j + 1) p q h1 h2)
             (by simp; omega) (fun u hu => by
               simp only [List.mem_append] at hu
               rcases hu with hu | hu | hu
               · exact h1 u (List.mem_of_mem_take hu)
               · exact hv1 u hu
               · exact h1 u (List.mem_of_mem_drop hu)) (fun m c u' hc' hu' => by
               rcases Nat.lt_or_ge m o with h2 | h2
               · rw [List.getElem?_append_left (by simp; omega), List.getElem?_take, if_pos h2] at hc' hu'
                 exact hr m c u' hc' hu'
               · have e1 : (List.take o cells).length = o := by simp; omega
                 have e2 : (List.take o vcells).length = o := by simp; omega
                 rw [List.getElem?_append_right (by omega), e1] at hc'
                 rw [List.getElem?_append_right (by omega), e2] at hu'
                 rcases Nat.lt_or_ge (m - o) n with h3 | h3
                 · rw [List.getElem?_append_left (by omega)] at hc' hu'
                   exact hvr _ _ _ hc' hu'
                 · rw [List.getElem?_append_right (by omega)] at hc' hu'
                   rw [List.getElem?_drop] at hc' hu'
                   rw [hc.1] at hc'
                   rw [← hvl, hc.1] at hu'
                   exact hr _ _ _ hc' hu') h
           refine ⟨vout, ?_, ho2⟩
           simp only [Instr.fill, hpl, hvs]
           have hsz : vs.toArray.size = n := by simp; omega
           have hcond : (decide (vs.toArray.size ≠ n) || decide (o + vs.toArray.size > vcells.toArray.size)) = false := by
             simp
             omega
           rw [hcond]
           simp only [Bool.false_eq_true, if_false]
           rw [setCells vs vcells o hoc]
           exact ho1
         · cases h
       · cases h
theorem zdat_cells (y : Ty) (h : y.k.isAgg = true ∨ y.zero.length = 1) : y.zdat.cells = y.zero.map .s := by
 unfold Ty.zdat
 split
 · rfl
 · rename_i hn
   rcases h with h | h
   · exact absurd h hn
   · match hz : y.zero, h with
     | [x], _ => rfl
theorem zval_cells (y : Ty) (h : y.k.isAgg = true ∨ y.zero.length = 1) : y.zval.cells = (y.zero.map Sc.val).toArray := by
 unfold Ty.zval
 split
 · rfl
 · rename_i hn
   rcases h with h | h
   · exact absurd h hn
   · match hz : y.zero, h with
     | [x], _ => simp [Sc.cells]
def evps (S : St) : List (Nat × Operand) → List (Nat × AV)
 | [] => []
 | (i, x) :: r => (i, evl S x) :: evps S r
theorem evps_eq (S : St) (l : List (Nat × Operand)) : evps S l = l.map fun p => (p.1, evl S p.2) := by
 induction l with
 | nil => rfl
 | cons x r ih => simp [evps, ih]
def placesAV (τ : Tab) : List (Nat × TypeId) → Option (List (Nat × Nat))
 | [] => some []
 | (o, t) :: r => match look t τ, placesAV τ r with
   | some y, some l => some ((o, y.size) :: l)
   | _, _ => none
theorem places_run (hτ : TabOK P τ) {fs : List Field} {l : List (Nat × Nat)} (h : placesAV τ (fs.map fun f => (f.offset, f.type)) = some l) :
   (fs.mapM (fun f => do pure (f.offset, ← sizeOf f.type)) : Sem (List (Nat × Nat))).run P w = .ok l w := by
 induction fs generalizing l with
 | nil => simp [placesAV] at h; subst h; rfl
 | cons f r ih =>
   simp only [List.map_cons, placesAV] at h
   split at h
   · rename_i y l' hy hl'
     obtain rfl := Option.some.inj h
     obtain ⟨d, i, hu, hi, hs, _⟩ := hτ.get hy
     have ih' := ih hl'
     rw [List.mapM_cons]
     simp only [Sem.run_bind, Sem.run_pure, Result.andThen_ok, sizeOf_run hi, hs]
     rw [ih']
     rfl
   · cases h
def buildAV (τ : Tab) (t : TypeId) (parts : List (Nat × AV)) : Option AV :=
 match look t τ with
 | some y => (match y.k with
   | .struct fs => (match placesAV τ fs with
     | some pl => (match fillAV (pl[·]?) (y.zero.map fun x => .d (.s x)) parts with
       | some cells => some (mkAgg cells)
       | none => none)
     | none => none)
   | .array _ e => (match look e τ with
     | some ye => (match fillAV (fun i => some (i * ye.size, ye.size)) (y.zero.map fun x => .d (.s x)) parts with
       | some cells => some (mkAgg cells)
       | none => none)
     | none => none)
   | _ => none)
 | none => none
theorem build_run (hτ : TabOK P τ) {t : TypeId} {parts : List (Nat × AV)} {vparts : List (Nat × Value)} {z : AV} (hl : parts.length = vparts.length)
   (hp : ∀ (j : Nat) p q, parts[j]? = some p → vparts[j]? = some q → p.1 = q.1 ∧ RepV R ι p.2 q.2) (h : buildAV τ t parts = some z) :
   ∃ u, (Instr.build t vparts.toArray).run P w = .ok u w ∧ RepV R ι z u := by
 unfold buildAV at h
 split at h
 · rename_i y hy
   obtain ⟨d, i, hu, hi, hs, hb, hz, hzl, hk, hzo, _⟩ := hτ.get hy
   have hzr : ∀ (i : Nat) (c : AV) (u : Value), (y.zero.map fun x => AV.d (.s x))[i]? = some c → (y.zero.map Sc.val)[i]? = some u → RepV R ι c u := by
     intro i c u hc hv
     rw [List.getElem?_map, Option.map_eq_some_iff] at hc hv
     obtain ⟨x, hx, rfl⟩ := hc
     obtain ⟨x', hx', rfl⟩ := hv
     rw [hx] at hx'
     cases hx'
     exact .d _ _ (.s x (hzo x (List.mem_iff_getElem?.2 ⟨_, hx⟩)))
   have hz1 : ∀ u ∈ y.zero.map Sc.val, u.oneCell' = true := by
     intro u hu
     simp only [List.mem_map] at hu
     obtain ⟨x, _, rfl⟩ := hu
     exact x.one
   split at h
   · rename_i fs hks
     have hag : y.k.isAgg = true := by rw [hks]; rfl
     rw [hks] at hk
     obtain ⟨fields, rfl, hfs⟩ := hk
     split at h
     · rename_i pl hpl
       split at h
       · rename_i cells hcells
         obtain rfl := Option.some.inj h
         obtain ⟨vout, ho1, ho2, ho3, ho4⟩ := fill_run (R := R) (ι := ι) hl hp (by simp) hz1 hzr hcells
         refine ⟨.agg vout.toArray, ?_, mkAgg_rep ho2 ho3 ho4⟩
         rw [← hfs] at hpl
         have hpr := places_run (P := P) (w := w) hτ hpl
         have hpm : (fields.mapM fun f => do pure (f.offset, ← sizeOf f.type) : Sem (Array (Nat × Nat))).run P w = .ok pl.toArray w := by
           rw [Array.mapM_eq_mapM_toList, Sem.run_map, hpr]
           rfl
         simp only [Instr.build, Sem.run_bind, zeroValue, typeInfo, run_program, hi, Sem.run_pure, Result.andThen_ok, hz, run_underlying hu, hpm, zval_cells y (.inl hag)]
         have : (fun x : Nat => pl.toArray[x]?) = (fun x : Nat => pl[x]?) := by funext x; simp
         rw [this, ho1]
         simp
       · cases h
     · cases h
   · rename_i n e hks
     have hag : y.k.isAgg = true := by rw [hks]; rfl
     rw [hks] at hk
     simp only [TK.ok] at hk
     subst hk
     split at h
     · rename_i ye hye
       obtain ⟨de, ie, hue, hie, hse, _⟩ := hτ.get hye
       split at h
       · rename_i cells hcells
         obtain rfl := Option.some.inj h
         obtain ⟨vout, ho1, ho2, ho3, ho4⟩ := fill_run (R := R) (ι := ι) hl hp (by simp) hz1 hzr hcells
         refine ⟨.agg vout.toArray, ?_, mkAgg_rep ho2 ho3 ho4⟩
         simp only [Instr.build, Sem.run_bind, zeroValue, typeInfo, run_program, hi, Sem.run_pure, Result.andThen_ok, hz, run_underlying hu, zval_cells y (.inl hag), sizeOf_run hie, hse, ho1]
       · cases h
     · cases h
   · cases h
 · cases h
end
end Go.Ua
