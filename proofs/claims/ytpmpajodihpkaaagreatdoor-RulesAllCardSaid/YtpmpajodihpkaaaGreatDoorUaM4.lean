/- The library of this claim and its walks, part 4, joined out of smaller texts. No statement stands in it. -/
import Derived.Test.YtpmpajodihpkaaaGreatDoorUaM3
set_option linter.unusedSimpArgs false
set_option linter.unusedVariables false
namespace Go.Ua
open Go
section
variable {X L : Nat → Prop} {w0 : W0} {w : World} {nt : Nat} {ι : Io} {S : St} {a : Act} {P : Program} {τ : Tab} {R : Rd}
def sizeAt (τ : Tab) (t : TypeId) : Nat := match look t τ with
 | some y => y.size
 | none => 0
theorem sizeAt_run (hτ : TabOK P τ) {t : TypeId} (h : sizeAt τ t ≠ 0) : ∃ i y, look t τ = some y ∧ P.info? t = some i ∧ i.size = sizeAt τ t := by
 unfold sizeAt at *
 split at h
 · rename_i y hy
   obtain ⟨d, i, hu, hi, hs, _⟩ := hτ.get hy
   exact ⟨i, y, hy, hi, hs⟩
 · exact absurd rfl h
def fieldAddrAV (τ : Tab) (s : TypeId) (p : AV) (f : Nat) : Option AV :=
 match kindOf τ s with
 | .struct fs => (match fs[f]? with
   | some (o, ft) => (match sizeAt τ ft with
     | 0 => none
     | _ + 1 => (match p with
       | .ptr n i off k => some (.ptr n i (off + o) k)
       | .d (.vref cs) => some (.d (.vref (cs.drop o)))
       | _ => none))
   | none => none)
 | _ => none
theorem vref_drop {cs : List Dat} {b o n : Nat} (h : RepD R (.vref cs) (.pointer (some ⟨b, o, none⟩))) : RepD R (.vref (cs.drop n)) (.pointer (some ⟨b, o + n, none⟩)) := by
 cases h with
 | vref _ _ _ f hr h =>
   refine .vref _ _ _ (fun j => f (n + j)) (fun j c hc => ?_) (fun j c hc => ?_)
   · rw [List.getElem?_drop] at hc
     have := hr _ _ hc
     rw [show o + n + j = o + (n + j) by omega]
     exact this
   · rw [List.getElem?_drop] at hc
     exact h _ _ hc
theorem fieldAddr_run (hτ : TabOK P τ) {s : TypeId} {p x : AV} {f : Nat} {v : Value} (hp : RepV R ι p v) (h : fieldAddrAV τ s p f = some x) :
   ∃ u, (Instr.fieldAt s v f).run P w = .ok u w ∧ RepV R ι x u := by
 unfold fieldAddrAV at h
 split at h
 · rename_i fs hk
   split at h
   · rename_i o ft hf
     split at h
     · cases h
     · rename_i m hm
       obtain ⟨d, i, y, _, _, hu, _, _, hk'⟩ := kindOf_run hτ hk (fun _ _ => trivial) (by simp)
       obtain ⟨fields, rfl, hfs⟩ := hk'
       obtain ⟨i', y', hy', hi', hs'⟩ := sizeAt_run hτ (t := ft) (by omega)
       obtain ⟨fd, hfd, ho, hft⟩ : ∃ fd, fields[f]? = some fd ∧ fd.offset = o ∧ fd.type = ft := by
         rw [← hfs, List.getElem?_map, Option.map_eq_some_iff] at hf
         obtain ⟨fd, h1, h2⟩ := hf
         simp only [Prod.mk.injEq] at h2
         exact ⟨fd, by simpa using h1, h2.1, h2.2⟩
       have hne : ¬ (i'.size = 0) := by omega
       split at h
       · rename_i n i off k
         obtain rfl := Option.some.inj h
         cases hp with
         | ptr _ _ _ _ b c lb hi =>
         refine ⟨.pointer (some ⟨b, i * k + (off + o), none⟩), ?_, .ptr _ _ _ _ _ _ _ hi⟩
         simp [Instr.fieldAt, run_underlying hu, hfd, Instr.sureAddr, fieldPlace, hft, sizeOf_run hi', hne, Addr.add_lit, ho, Nat.add_assoc]
       · rename_i cs
         obtain rfl := Option.some.inj h
         have hp' := rep_d hp
         obtain ⟨b, o', rfl⟩ : ∃ b o', v = .pointer (some ⟨b, o', none⟩) := by cases hp'; exact ⟨_, _, rfl⟩
         refine ⟨.pointer (some ⟨b, o' + o, none⟩), ?_, .d _ _ (vref_drop hp')⟩
         simp [Instr.fieldAt, run_underlying hu, hfd, Instr.sureAddr, fieldPlace, hft, sizeOf_run hi', hne, Addr.add_lit, ho]
       · cases h
   · cases h
 · cases h
def partAV (τ : Tab) (t : TypeId) (cs : List AV) (o : Nat) : Option AV :=
 match look t τ with
 | some y => (match y.k.isAgg with
   | true => if o + y.size ≤ cs.length then some (mkAgg ((cs.drop o).take y.size)) else none
   | false => cs[o]?)
 | none => none
def aggCells : AV → Option (List AV)
 | .d (.agg cs) => some (cs.map .d)
 | .agg cs => some cs
 | _ => none
theorem aggCells_rep {x : AV} {v : Value} (hx : RepV R ι x v) {cs : List AV} (h : aggCells x = some cs) :
   ∃ vs : List Value, v = .agg vs.toArray ∧ cs.length = vs.length ∧ (∀ u ∈ vs, u.oneCell' = true) ∧ ∀ (i : Nat) (c : AV) (u : Value), cs[i]? = some c → vs[i]? = some u → RepV R ι c u := by
 unfold aggCells at h
 split at h
 · obtain rfl := Option.some.inj h
   cases rep_d hx with
   | agg ds vs hl h1 h =>
   refine ⟨vs, rfl, by simpa using hl, h1, fun i c u hc hu => ?_⟩
   rw [List.getElem?_map, Option.map_eq_some_iff] at hc
   obtain ⟨d, hd, rfl⟩ := hc
   exact .d _ _ (h i d u hd hu)
 · obtain rfl := Option.some.inj h
   cases hx with
   | agg _ vs hl h1 h => exact ⟨vs, rfl, hl, h1, h⟩
 · cases h
theorem part_run (hτ : TabOK P τ) {t : TypeId} {cs : List AV} {vs : List Value} {o : Nat} {x : AV} (hl : cs.length = vs.length) (h1 : ∀ u ∈ vs, u.oneCell' = true)
   (hr : ∀ (i : Nat) (c : AV) (u : Value), cs[i]? = some c → vs[i]? = some u → RepV R ι c u) (h : partAV τ t cs o = some x) :
   ∃ u, (part t vs.toArray o).run P w = .ok u w ∧ RepV R ι x u := by
 unfold partAV at h
 split at h
 · rename_i y hy
   obtain ⟨d, i, hu, hi, hs, _, _, _, hk, _⟩ := hτ.get hy
   split at h
   · rename_i hag
     split at h
     · rename_i hle
       obtain rfl := Option.some.inj h
       refine ⟨.agg ((vs.drop o).take y.size).toArray, ?_, mkAgg_rep (by simp; omega) (fun u hu => h1 u (List.mem_of_mem_drop (List.mem_of_mem_take hu))) fun i c u hc hu => ?_⟩
       · have he : vs.toArray.extract o (o + y.size) = ((vs.drop o).take y.size).toArray := by
           simp [List.take_drop]
         simp [part, Sem.run_bind, TK.isAgg_run hu hk, hag, sizeOf_run hi, hs, he]
       · rw [List.getElem?_take] at hc hu
         split at hc
         · rename_i hlt
           rw [if_pos hlt] at hu
           rw [List.getElem?_drop] at hc hu
           exact hr _ _ _ hc hu
         · cases hc
     · cases h
   · rename_i hag
     have hlt : o < vs.length := hl ▸ (List.getElem?_eq_some_iff.1 h).1
     refine ⟨vs[o], part_scalar hu hk hag (by simp), hr o x _ h (List.getElem?_eq_getElem hlt)⟩
 · cases h
def fieldAV (τ : Tab) (s : TypeId) (x : AV) (f : Nat) : Option AV :=
 match kindOf τ s with
 | .struct fs => (match fs[f]? with
   | some (o, ft) => (match aggCells x with
     | some cs => partAV τ ft cs o
     | none => none)
   | none => none)
 | _ => none
theorem field_run (hτ : TabOK P τ) {s : TypeId} {p x : AV} {f : Nat} {v : Value} (hp : RepV R ι p v) (h : fieldAV τ s p f = some x) :
   ∃ u, (Instr.field s v f).run P w = .ok u w ∧ RepV R ι x u := by
 unfold fieldAV at h
 split at h
 · rename_i fs hk
   split at h
   · rename_i o ft hf
     split at h
     · rename_i cs hcs
       obtain ⟨vs, rfl, hl, h1, hr⟩ := aggCells_rep hp hcs
       obtain ⟨d, i, y, _, _, hu, _, _, hk'⟩ := kindOf_run hτ hk (fun _ _ => trivial) (by simp)
       obtain ⟨fields, rfl, hfs⟩ := hk'
       obtain ⟨fd, hfd, ho, hft⟩ : ∃ fd, fields[f]? = some fd ∧ fd.offset = o ∧ fd.type = ft := by
         rw [← hfs, List.getElem?_map, Option.map_eq_some_iff] at hf
         obtain ⟨fd, h1, h2⟩ := hf
         simp only [Prod.mk.injEq] at h2
         exact ⟨fd, by simpa using h1, h2.1, h2.2⟩
       obtain ⟨u, hu1, hu2⟩ := part_run (P := P) (w := w) hτ hl h1 hr h
       refine ⟨u, ?_, hu2⟩
       simp [Instr.field, run_underlying hu, hfd, asAgg, hft, ho, hu1]
     · cases h
   · cases h
 · cases h
def indexAddrAV (A : Ar) (τ : Tab) (t : TypeId) (x ix : AV) : Option AV :=
 match ix with
 | .d (.s (.int _ n)) => (match kindOf τ t with
   | .slice e => (match x with
     | .d (.view k es) => if k = sizeAt τ e then (match A.getD es n with
       | some d => some (.d (.vref d.cells))
       | none => none) else none
     | .own m i len k c => if k = sizeAt τ e then (match A.inB n len with
       | some j => some (.ptr m (A.addN i j) 0 k)
       | none => none) else none
     | _ => none)
   | .array cnt e => (match A.inB n cnt with
     | some j => (match x with
       | .ptr m i off k => some (.ptr m i (off + j * sizeAt τ e) k)
       | .d (.vref cs) => some (.d (.vref (cs.drop (j * sizeAt τ e))))
       | _ => none)
     | none => none)
   | _ => none)
 | _ => none
theorem inB_some {n : Int} {len j : Nat} (h : Ar.real.inB n len = some j) : 0 ≤ n ∧ n < (len : Int) ∧ n.toNat = j ∧ j < len := by
 simp only [Ar.real] at h
 split at h
 · rename_i hc
   obtain rfl := Option.some.inj h
   exact ⟨hc.1, hc.2, rfl, by omega⟩
 · cases h
theorem getI_some {α : Type} {l : List α} {n : Int} {x : α} (h : getI l n = some x) : 0 ≤ n ∧ n < (l.length : Int) ∧ l[n.toNat]? = some x := by
 unfold getI at h
 split at h
 · rename_i h0
   have := (List.getElem?_eq_some_iff.1 h).1
   exact ⟨h0, by omega, h⟩
 · cases h
theorem indexAddr_run (hτ : TabOK P τ) {t : TypeId} {x ix z : AV} {v iv : Value} (hx : RepV R ι x v) (hi : RepV R ι ix iv) (hnz : ∀ e, kindOf τ t = .slice e ∨ (∃ c, kindOf τ t = .array c e) → sizeAt τ e ≠ 0)
   (h : indexAddrAV Ar.real τ t x ix = some z) : ∃ u, (Instr.indexAt t v iv).run P w = .ok u w ∧ RepV R ι z u := by
 unfold indexAddrAV at h
 split at h
 · rename_i ki n
   obtain rfl := rep_s hi
   split at h
   · rename_i e hk
     obtain ⟨d, ti, y, _, _, hu, _, _, hk'⟩ := kindOf_run hτ hk (fun _ _ => trivial) (by simp)
     simp only [TK.ok] at hk'
     subst hk'
     obtain ⟨i', y', hy', hi', hs'⟩ := sizeAt_run hτ (hnz e (.inl hk))
     split at h
     · rename_i k es
       split at h
       · rename_i hdl
         split at h
         · rename_i d hd
           obtain rfl := Option.some.inj h
           obtain ⟨h0, h2, h3⟩ := getI_some (show getI es n = some d from hd)
           cases rep_d hx with
           | nil => simp at h3
           | view _ _ ad cap f hc hmx0 hsp hkk hr hrep =>
           have hkd := hkk _ _ h3
           have hsp' := hsp (by intro e0; subst e0; simp at h3)
           obtain ⟨ab, ao, asp⟩ := ad
           simp only at hsp'
           subst hsp'
           have hks : k = i'.size := by omega
           refine ⟨.pointer (some ⟨ab, ao + n.toNat * k, none⟩), ?_, .d _ _ (.vref _ _ _ (f n.toNat) (fun j c hc => hr _ _ _ _ h3 hc) (fun j c hc => hrep _ _ _ _ h3 hc))⟩
           have hlt : n < (es.length : Int) := h2
           simp [Instr.indexAt, Sc.val, asIntOf, run_underlying hu, h0, hlt, sizeOf_run hi', Addr.add_lit, hks]
         · cases h
       · cases h
     · rename_i m i len k c
       split at h
       · rename_i hks
         split at h
         · rename_i j hj
           obtain rfl := Option.some.inj h
           obtain ⟨h0, h1, h2, h3⟩ := inB_some hj
           cases hx with
           | own _ _ _ _ b cap mm lb _ hi2 hl hm hc =>
           refine ⟨.pointer (some ⟨b, (i + j) * k + 0, none⟩), ?_, .ptr _ _ _ _ _ _ _ hi2⟩
           have hke : k = i'.size := by omega
           simp [Instr.indexAt, Sc.val, asIntOf, run_underlying hu, h0, h1, sizeOf_run hi', Addr.add_lit, ← hke, h2, Nat.add_mul]
         · cases h
       · cases h
     · cases h
   · rename_i cnt e hk
     obtain ⟨d, ti, y, _, _, hu, _, _, hk'⟩ := kindOf_run hτ hk (fun _ _ => trivial) (by simp)
     simp only [TK.ok] at hk'
     subst hk'
     obtain ⟨i', y', hy', hi', hs'⟩ := sizeAt_run hτ (hnz e (.inr ⟨cnt, hk⟩))
     split at h
     · rename_i j hj
       obtain ⟨h0, h1, h2, h3⟩ := inB_some hj
       split at h
       · rename_i m i off k
         obtain rfl := Option.some.inj h
         cases hx with
         | ptr _ _ _ _ b c lb hi2 =>
         refine ⟨.pointer (some ⟨b, i * k + (off + j * sizeAt τ e), none⟩), ?_, .ptr _ _ _ _ _ _ _ hi2⟩
         simp [Instr.indexAt, Sc.val, asIntOf, run_underlying hu, Instr.sureAddr, h0, h1, sizeOf_run hi', Addr.add_lit, hs', h2, Nat.add_assoc]
       · rename_i cs
         obtain rfl := Option.some.inj h
         have hx' := rep_d hx
         obtain ⟨b, o', rfl⟩ : ∃ b o', v = .pointer (some ⟨b, o', none⟩) := by cases hx'; exact ⟨_, _, rfl⟩
         refine ⟨.pointer (some ⟨b, o' + j * sizeAt τ e, none⟩), ?_, .d _ _ (vref_drop hx')⟩
         simp [Instr.indexAt, Sc.val, asIntOf, run_underlying hu, Instr.sureAddr, h0, h1, sizeOf_run hi', Addr.add_lit, hs', h2]
       · cases h
     · cases h
   · cases h
 · cases h
def indexAV (A : Ar) (τ : Tab) (t : TypeId) (x ix : AV) : Option AV :=
 match ix with
 | .d (.s (.int _ n)) => (match kindOf τ t with
   | .string => (match x with
     | .d (.s (.str l)) => (match A.getS l n with
       | some b => some (.d (.s (.int .u8 b)))
       | none => none)
     | _ => none)
   | .array cnt e => (match A.inB n cnt with
     | some j => (match sizeAt τ e, aggCells x with
       | 0, _ => none
       | k, some cs => partAV τ e cs (j * k)
       | _, none => none)
     | none => none)
   | _ => none)
 | _ => none
theorem getS_some {l : List UInt8} {n b : Int} (h : Ar.real.getS l n = some b) : ∃ c, 0 ≤ n ∧ n < (l.length : Int) ∧ l[n.toNat]? = some c ∧ b = (c.toNat : Int) := by
 simp only [Ar.real, Option.map_eq_some_iff] at h
 obtain ⟨c, h1, h2⟩ := h
 obtain ⟨h3, h4, h5⟩ := getI_some h1
 exact ⟨c, h3, h4, h5, h2.symm⟩
theorem index_run (hτ : TabOK P τ) {t : TypeId} {x ix z : AV} {v iv : Value} (hx : RepV R ι x v) (hi : RepV R ι ix iv)
   (h : indexAV Ar.real τ t x ix = some z) : ∃ u, (Instr.index t v iv).run P w = .ok u w ∧ RepV R ι z u := by
 unfold indexAV at h
 split at h
 · rename_i ki n
   obtain rfl := rep_s hi
   split at h
   · rename_i hk
     obtain ⟨d, ti, y, _, _, hu, _, _, hk'⟩ := kindOf_run hτ hk (fun _ _ => trivial) (by simp)
     simp only [TK.ok] at hk'
     subst hk'
     split at h
     · rename_i l
       obtain rfl := rep_s hx
       split at h
       · rename_i b hb
         obtain rfl := Option.some.inj h
         obtain ⟨c, h0, h1, h2, rfl⟩ := getS_some hb
         refine ⟨.int .u8 c.toNat, ?_, .d _ _ (.s (.int .u8 _) (ok_byte c))⟩
         have hg : (ByteArray.mk l.toArray)[Int.toNat n]? = some c := by
           have hlt : n.toNat < l.length := by omega
           rw [List.getElem?_eq_getElem hlt] at h2
           have hsz : n.toNat < (ByteArray.mk l.toArray).size := by rw [str_size]; exact hlt
           rw [getElem?_pos (ByteArray.mk l.toArray) n.toNat hsz]
           exact h2
         simp [Instr.index, Sc.val, asIntOf, run_underlying hu, h0, hg]
       · cases h
     · cases h
   · rename_i cnt e hk
     obtain ⟨d, ti, y, _, _, hu, _, _, hk'⟩ := kindOf_run hτ hk (fun _ _ => trivial) (by simp)
     simp only [TK.ok] at hk'
     subst hk'
     split at h
     · rename_i j hj
       obtain ⟨h0, h1, h2, h3⟩ := inB_some hj
       split at h
       · cases h
       · rename_i cs hcs hne
         obtain ⟨vs, rfl, hl, hone, hr⟩ := aggCells_rep hx hcs
         obtain ⟨i', y', hy', hi', hs'⟩ := sizeAt_run hτ (t := e) (fun e0 => hne e0)
         obtain ⟨u, hu1, hu2⟩ := part_run (P := P) (w := w) hτ hl hone hr h
         refine ⟨u, ?_, hu2⟩
         simp [Instr.index, Sc.val, asIntOf, run_underlying hu, h0, h1, sizeOf_run hi', hs', h2, hu1]
       · cases h
     · cases h
   · cases h
 · cases h
end
end Go.Ua
namespace Go.Ua
open Go
section
variable {X L : Nat → Prop} {w0 : W0} {w : World} {nt : Nat} {ι : Io} {S : St} {a : Act} {P : Program} {τ : Tab} {R : Rd}
def bnd (x : Option AV) (d : Int) : Option Int := match x with
 | none => some d
 | some (.d (.s (.int _ n))) => some n
 | _ => none
def sliceAV (A : Ar) (τ : Tab) (t : TypeId) (x : AV) (lo hi mx : Option AV) : Option AV :=
 match kindOf τ t, mx with
 | .string, none => (match x with
   | .d (.s (.str l)) => (match bnd lo 0, bnd hi (A.lenS l) with
     | some i, some j => (match A.cutS l i j with
       | some r => some (.d (.s (.str r)))
       | none => none)
     | _, _ => none)
   | _ => none)
 | .slice e, none => (match x with
   | .d (.view k es) => (match sizeAt τ e with
     | 0 => none
     | s + 1 => if k = s + 1 then (match bnd lo 0, bnd hi (A.lenD es) with
       | some i, some j => (match A.cutD es i j with
         | some r => some (.d (.view k r))
         | none => none)
       | _, _ => none) else none)
   | .own n b len k c => (match sizeAt τ e with
     | 0 => none
     | s + 1 => if k = s + 1 then (match bnd lo 0, bnd hi (A.natI len) with
       | some i, some j => (match A.cutN len i j, c with
         | some (some (i, j)), none => some (.own n (A.addN b i) (A.subN j i) k none)
         | some none, none => some (.d (.view k []))
         | _, _ => none)
       | _, _ => none) else none)
   | _ => none)
 | .slice e, some (.d (.s (.int _ 0))) => (match sizeAt τ e, lo, hi, x with
   | 0, _, _, _ => none
   | _, none, some (.d (.s (.int _ 0))), .d (.view _ _) => some .nul
   | _, none, some (.d (.s (.int _ 0))), .own _ _ _ _ _ => some .nul
   | _, _, _, _ => none)
 | _, _ => none
theorem bnd_rep {x : Option AV} {v : Option Value} {d n : Int} (hx : ∀ y, x = some y → ∃ u, v = some u ∧ RepV R ι y u) (hv : x = none → v = none) (h : bnd x d = some n) :
   (v = none ∧ x = none ∧ n = d) ∨ ∃ k, v = some (.int k n) := by
 unfold bnd at h
 split at h
 · obtain rfl := Option.some.inj h; exact .inl ⟨hv rfl, rfl, rfl⟩
 · rename_i k m
   obtain rfl := Option.some.inj h
   obtain ⟨u, hu, hr⟩ := hx _ rfl
   obtain rfl := rep_s hr
   exact .inr ⟨k, hu⟩
 · cases h
theorem bounds_run {isS : Bool} {len cap : Nat} {lo hi : Option Value} {i j : Int} (hlo : (lo = none ∧ i = 0) ∨ ∃ k, lo = some (.int k i)) (hhi : (hi = none ∧ j = len) ∨ ∃ k, hi = some (.int k j))
   (h0 : 0 ≤ i) (hij : i ≤ j) (hjc : j ≤ (cap : Int)) (hl : len ≤ cap) :
   (Instr.sliceBounds isS len cap lo hi none).run P w = .ok (i.toNat, j.toNat, cap) w := by
 have h1 : 0 ≤ j := by omega
 have hb : ∀ (k : IntKind) (n : Int) (y : Nat) (c : BoundsCode), 0 ≤ n → n ≤ (y : Int) → (Instr.sliceBound (.int k n) y c).run P w = .ok n.toNat w := by
   intro k n y c h2 h3
   simp [Instr.sliceBound, asIntOf, h2, h3]
 have hij' : i ≤ (j.toNat : Int) := by omega
 unfold Instr.sliceBounds
 rcases hlo with ⟨rfl, rfl⟩ | ⟨k, rfl⟩ <;> rcases hhi with ⟨rfl, rfl⟩ | ⟨k', rfl⟩
 · simp
 · simp [hb _ j cap _ h1 hjc]
 · simp only [Sem.run_bind, Sem.run_pure, Result.andThen_ok]
   have := hb k i len .sliceB h0 (by omega)
   simp [this]
 · simp only [Sem.run_bind, Sem.run_pure, Result.andThen_ok]
   have := hb k i j.toNat .sliceB h0 hij'
   simp [hb _ j cap _ h1 hjc, this]
theorem slice_run (hτ : TabOK P τ) {t : TypeId} {x z : AV} {v : Value} {lo hi mx : Option AV} {vlo vhi vmx : Option Value} (hx : RepV R ι x v)
   (hlo : ∀ y, lo = some y → ∃ u, vlo = some u ∧ RepV R ι y u) (hlo' : lo = none → vlo = none)
   (hhi : ∀ y, hi = some y → ∃ u, vhi = some u ∧ RepV R ι y u) (hhi' : hi = none → vhi = none)
   (hmx : ∀ y, mx = some y → ∃ u, vmx = some u ∧ RepV R ι y u) (hmx' : mx = none → vmx = none)
   (h : sliceAV Ar.real τ t x lo hi mx = some z) : ∃ u, (Instr.sliceAt t v vlo vhi vmx).run P w = .ok u w ∧ RepV R ι z u := by
 unfold sliceAV at h
 split at h
 · rename_i hk
   obtain ⟨d, ti, y, _, _, hu, _, _, hk'⟩ := kindOf_run hτ hk (fun _ _ => trivial) (by simp)
   simp only [TK.ok] at hk'
   subst hk'
   obtain rfl := hmx' rfl
   split at h
   · rename_i l
     obtain rfl := rep_s hx
     split at h
     · rename_i i j hi1 hj1
       split at h
       · rename_i r hr
         obtain rfl := Option.some.inj h
         simp only [Ar.real, cutI] at hr
         split at hr
         · rename_i hc
           obtain rfl := Option.some.inj hr
           refine ⟨.string ⟨((l.take j.toNat).drop i.toNat).toArray⟩, ?_, .d _ _ (.s (.str _) (by have := rep_ok hx; simp only [Sc.ok, List.length_drop, List.length_take] at this ⊢; omega))⟩
           have hb := bounds_run (P := P) (w := w) (isS := false) (len := l.length) (cap := l.length) (lo := vlo) (hi := vhi) (i := i) (j := j)
             (by rcases bnd_rep hlo hlo' hi1 with ⟨h1, _, h2⟩ | h1; exact .inl ⟨h1, h2⟩; exact .inr h1)
             (by rcases bnd_rep hhi hhi' hj1 with ⟨h1, _, h2⟩ | h1; exact .inl ⟨h1, h2⟩; exact .inr h1) hc.1 hc.2.1 hc.2.2 (Nat.le_refl _)
           have he : (ByteArray.mk l.toArray).extract i.toNat j.toNat = ⟨((l.take j.toNat).drop i.toNat).toArray⟩ := by
             apply ByteArray.ext
             simp [List.drop_take]
           simp only [Instr.sliceAt, Sem.run_bind, run_underlying hu, Result.andThen_ok, Instr.slice, Sc.val, Option.isSome_none, Bool.false_eq_true, if_false, str_size, hb, he, Sem.run_pure]
         · cases hr
       · cases h
     · cases h
   · cases h
 · rename_i e hk
   obtain ⟨d, ti, y, _, _, hu, _, _, hk'⟩ := kindOf_run hτ hk (fun _ _ => trivial) (by simp)
   simp only [TK.ok] at hk'
   subst hk'
   obtain rfl := hmx' rfl
   split at h
   · rename_i k es
     split at h
     · cases h
     · rename_i k' hks
       split at h
       · rename_i hkk'
         obtain ⟨i', y', hy', hi', hs'⟩ := sizeAt_run hτ (t := e) (by omega)
         have hke : k = i'.size := by omega
         split at h
         · rename_i i j hi1 hj1
           split at h
           · rename_i r hr
             obtain rfl := Option.some.inj h
             simp only [Ar.real, cutI] at hr
             split at hr
             · rename_i hc
               obtain rfl := Option.some.inj hr
               have hlo2 : (vlo = none ∧ i = 0) ∨ ∃ k, vlo = some (.int k i) := by rcases bnd_rep hlo hlo' hi1 with ⟨h1, _, h2⟩ | h1; exact .inl ⟨h1, h2⟩; exact .inr h1
               have hhi2 : (vhi = none ∧ j = (es.length : Int)) ∨ ∃ k, vhi = some (.int k j) := by rcases bnd_rep hhi hhi' hj1 with ⟨h1, _, h2⟩ | h1; exact .inl ⟨h1, h2⟩; exact .inr h1
               have hlen : ((es.take j.toNat).drop i.toNat).length = j.toNat - i.toNat := by simp; omega
               cases rep_d hx with
               | nil =>
                 have hb := bounds_run (P := P) (w := w) (isS := true) (len := 0) (cap := 0) hlo2 hhi2 hc.1 hc.2.1 hc.2.2 (Nat.le_refl _)
                 have hj0 : j.toNat = 0 := by have := hc.2.2; simp at this; omega
                 have hi0 : i.toNat = 0 := by omega
                 refine ⟨.slice none 0 0, ?_, ?_⟩
                 · simp [Instr.sliceAt, Sem.run_bind, run_underlying hu, Instr.slice, hb, sizeOf_run hi', hj0, hi0]
                 · have : ((([] : List Dat).take j.toNat).drop i.toNat) = [] := by simp
                   rw [this]
                   exact .d _ _ (.nil _)
               | view _ _ ad cap f hcap hmx0 hsp hkk hr hrep =>
                 have hb := bounds_run (P := P) (w := w) (isS := true) (len := es.length) (cap := cap) hlo2 hhi2 hc.1 hc.2.1 (by omega) hcap
                 refine ⟨.slice (some (if cap = i.toNat then ad else ad.add (i.toNat * i'.size))) (j.toNat - i.toNat) (cap - i.toNat), ?_, ?_⟩
                 · simp only [Instr.sliceAt, Sem.run_bind, run_underlying hu, Result.andThen_ok, Instr.slice, hb, sizeOf_run hi', Sem.run_pure, Option.map_some]
                   split <;> rfl
                 · have hsub : ∀ n e, ((es.take j.toNat).drop i.toNat)[n]? = some e → n < j.toNat - i.toNat ∧ es[i.toNat + n]? = some e := by
                     intro n e hn
                     have h1 := (List.getElem?_eq_some_iff.1 hn).1
                     rw [hlen] at h1
                     rw [List.getElem?_drop, List.getElem?_take, if_pos (by omega)] at hn
                     exact ⟨h1, hn⟩
                   by_cases he : (es.take j.toNat).drop i.toNat = []
                   · have h0 : j.toNat - i.toNat = 0 := by rw [← hlen, he]; rfl
                     rw [he, h0]
                     exact .d _ _ (.view k [] _ _ (fun _ _ => undef) (Nat.zero_le _) (by omega) (fun h => absurd rfl h) (by simp) (by simp) (by simp))
                   · have hlt : i.toNat < j.toNat := by
                       have := List.length_pos_iff.2 he
                       omega
                     have hjl : j.toNat ≤ es.length := by omega
                     have hne : ¬ cap = i.toNat := by omega
                     rw [if_neg hne]
                     have hes : es ≠ [] := by intro e0; subst e0; simp at hjl; omega
                     have hspn := hsp hes
                     obtain ⟨ab, ao, asp⟩ := ad
                     simp only at hspn
                     subst hspn
                     rw [Addr.add_lit]
                     refine .d _ _ ?_
                     rw [show j.toNat - i.toNat = ((es.take j.toNat).drop i.toNat).length from hlen.symm]
                     refine .view k _ _ _ (fun n m => f (i.toNat + n) m) (by rw [hlen]; omega) (by omega) (fun _ => rfl) (fun n e hn => hkk _ _ (hsub n e hn).2) (fun n e m c hn hc' => ?_) (fun n e m c hn hc' => hrep _ _ _ _ (hsub n e hn).2 hc')
                     have := hr _ _ _ _ (hsub n e hn).2 hc'
                     simp only at this ⊢
                     rw [show ao + i.toNat * i'.size + n * k + m = ao + (i.toNat + n) * k + m by rw [← hke, Nat.add_mul]; omega]
                     exact this
             · cases hr
           · cases h
         · cases h
       · cases h
   · rename_i m b len k c
     split at h
     · cases h
     · rename_i s hks
       split at h
       · rename_i hkk'
         obtain ⟨i', y', hy', hi', hs'⟩ := sizeAt_run hτ (t := e) (by omega)
         have hke : k = i'.size := by omega
         split at h
         · rename_i i j hi1 hj1
           have hlo2 : (vlo = none ∧ i = 0) ∨ ∃ k, vlo = some (.int k i) := by rcases bnd_rep hlo hlo' hi1 with ⟨h1, _, h2⟩ | h1; exact .inl ⟨h1, h2⟩; exact .inr h1
           have hhi2 : (vhi = none ∧ j = (len : Int)) ∨ ∃ k, vhi = some (.int k j) := by rcases bnd_rep hhi hhi' hj1 with ⟨h1, _, h2⟩ | h1; exact .inl ⟨h1, h2⟩; exact .inr h1
           cases hx with
           | own _ _ _ _ bb cap mm lb _ hi2 hl hm hx0 hc =>
           split at h
           · rename_i i1 j1 hcut
             obtain rfl := Option.some.inj h
             simp only [Ar.real] at hcut
             split at hcut
             · rename_i hcc
               split at hcut
               · cases hcut
               · rename_i hnn
                 simp only [Option.some.injEq, Prod.mk.injEq] at hcut
                 obtain ⟨rfl, rfl⟩ := hcut
                 have hb := bounds_run (P := P) (w := w) (isS := true) (len := len) (cap := mm) hlo2 hhi2 hcc.1 hcc.2.1 (by omega) hl
                 have hmc : b + mm = cap := by
                   rcases hc with ⟨_, h1⟩ | h1
                   · exact h1
                   · cases h1
                 refine ⟨.slice (some (if mm = i.toNat then ⟨bb, b * k, none⟩ else (⟨bb, b * k, none⟩ : Addr).add (i.toNat * i'.size))) (j.toNat - i.toNat) (mm - i.toNat), ?_, ?_⟩
                 · simp only [Instr.sliceAt, Sem.run_bind, run_underlying hu, Result.andThen_ok, Instr.slice, hb, sizeOf_run hi', Sem.run_pure, Option.map_some]
                   split <;> rfl
                 · have hadd : (if mm = i.toNat then (⟨bb, b * k, none⟩ : Addr) else (⟨bb, b * k, none⟩ : Addr).add (i.toNat * i'.size)) = ⟨bb, (b + i.toNat) * k, none⟩ := by
                     split
                     · have : i.toNat = 0 := by omega
                       rw [this, Nat.add_zero]
                     · rw [Addr.add_lit, ← hke, Nat.add_mul]
                   rw [hadd]
                   exact .own _ _ _ _ _ _ _ _ _ hi2 (by show j.toNat - i.toNat ≤ _; omega) (by show b + i.toNat + _ ≤ _; omega) hx0 (.inl ⟨rfl, by show b + i.toNat + _ = _; omega⟩)
             · cases hcut
           · rename_i hcut
             obtain rfl := Option.some.inj h
             simp only [Ar.real] at hcut
             split at hcut
             · rename_i hcc
               split at hcut
               · rename_i hnn
                 have hb := bounds_run (P := P) (w := w) (isS := true) (len := len) (cap := mm) hlo2 hhi2 hcc.1 hcc.2.1 (by omega) hl
                 have h0 : j.toNat - i.toNat = 0 := by omega
                 refine ⟨.slice (some (if mm = i.toNat then ⟨bb, b * k, none⟩ else (⟨bb, b * k, none⟩ : Addr).add (i.toNat * i'.size))) (j.toNat - i.toNat) (mm - i.toNat), ?_, ?_⟩
                 · simp only [Instr.sliceAt, Sem.run_bind, run_underlying hu, Result.andThen_ok, Instr.slice, hb, sizeOf_run hi', Sem.run_pure, Option.map_some]
                   split <;> rfl
                 · rw [h0]
                   exact .d _ _ (.view k [] _ _ (fun _ _ => undef) (Nat.zero_le _) (by omega) (fun h => absurd rfl h) (by simp) (by simp) (by simp))
               · cases hcut
             · cases hcut
           · cases h
         · cases h
       · cases h
   · cases h
 · rename_i e kk hk
   obtain ⟨d, ti, y, _, _, hu, _, _, hk'⟩ := kindOf_run hτ hk (fun _ _ => trivial) (by simp)
   simp only [TK.ok] at hk'
   subst hk'
   obtain ⟨u, rfl, hu0⟩ := hmx _ rfl
   obtain rfl := rep_s hu0
   have key : ∀ (ki : IntKind) (ad : Option Addr) (len cap : Nat), v = .slice ad len cap → vlo = none → vhi = some (.int ki 0) → sizeAt τ e ≠ 0 →
       ∃ u, (Instr.sliceAt t v vlo vhi (some (Sc.int kk 0).val)).run P w = .ok u w ∧ RepV R ι .nul u := by
     intro ki ad len cap h1 h2 h3 h4
     obtain ⟨i', y', hy', hi', hs'⟩ := sizeAt_run hτ h4
     subst h1; subst h2; subst h3
     refine ⟨.slice ad 0 0, ?_, .nul ad⟩
     simp [Instr.sliceAt, Sem.run_bind, run_underlying hu, Instr.slice, Instr.sliceBounds, Instr.sliceBound, asIntOf, Sc.val, sizeOf_run hi']
   split at h
   · cases h
   · rename_i ki _ _ hnz
     obtain rfl := Option.some.inj h
     obtain ⟨u, hu2, hr2⟩ := hhi _ rfl
     obtain rfl := rep_s hr2
     have hx' := rep_d hx
     obtain ⟨ad, len, cap, rfl⟩ : ∃ ad len cap, v = .slice ad len cap := by cases hx' <;> exact ⟨_, _, _, rfl⟩
     exact key ki ad len cap rfl (hlo' rfl) hu2 (fun e0 => hnz e0)
   · rename_i ki _ _ _ _ _ hnz
     obtain rfl := Option.some.inj h
     obtain ⟨u, hu2, hr2⟩ := hhi _ rfl
     obtain rfl := rep_s hr2
     obtain ⟨ad, len, cap, rfl⟩ : ∃ ad len cap, v = .slice ad len cap := by cases hx; exact ⟨_, _, _, rfl⟩
     exact key ki ad len cap rfl (hlo' rfl) hu2 (fun e0 => hnz e0)
   · cases h
 · cases h
end
end Go.Ua
