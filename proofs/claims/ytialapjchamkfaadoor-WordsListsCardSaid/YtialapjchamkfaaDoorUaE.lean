/- Fields, elements, slices, conversions, and all operations that leave the world as it is, put together. A library of this claim's own: no statement stands in it. -/
import Derived.Test.YtialapjchamkfaaDoorUaD
namespace Go.Ua
open Go
set_option linter.unusedVariables false
set_option linter.unusedSimpArgs false

section
variable {X L : Nat → Prop} {w0 : W0} {w : World} {nt : Nat} {ι : Io} {S : St} {a : Act} {P : Program} {τ : Tab} {R : Rd}

def sizeAt (τ : Tab) (t : TypeId) : Nat := match look t τ with
  | some y => y.size
  | none => 0

theorem sizeAt_run (hτ : TabOK P τ) {t : TypeId} (h : sizeAt τ t ≠ 0) : ∃ i y, look t τ = some y ∧ P.info? t = some i ∧ i.size = sizeAt τ t := by
  unfold sizeAt at *
  split at h
  · rename_i y hy
    obtain ⟨d, i, hu, hi, hs, _⟩ := hτ.get hy
    exact ⟨i, y, hy, hi, hs⟩
  · exact absurd rfl h

/-! ### Fields -/

def fieldAddrAV (τ : Tab) (s : TypeId) (p : AV) (f : Nat) : Option AV :=
  match kindOf τ s with
  | .struct fs => (match fs[f]? with
    | some (o, ft) => (match sizeAt τ ft with
      | 0 => none
      | _ + 1 => (match p with
        | .ptr n i off k => some (.ptr n i (off + o) k)
        | .d (.vref cs) => some (.d (.vref (cs.drop o)))
        | _ => none))
    | none => none)
  | _ => none

theorem vref_drop {cs : List Dat} {b o n : Nat} (h : RepD R (.vref cs) (.pointer (some ⟨b, o, none⟩))) : RepD R (.vref (cs.drop n)) (.pointer (some ⟨b, o + n, none⟩)) := by
  cases h with
  | vref _ _ _ f hr h =>
    refine .vref _ _ _ (fun j => f (n + j)) (fun j c hc => ?_) (fun j c hc => ?_)
    · rw [List.getElem?_drop] at hc
      have := hr _ _ hc
      rw [show o + n + j = o + (n + j) by omega]
      exact this
    · rw [List.getElem?_drop] at hc
      exact h _ _ hc

theorem fieldAddr_run (hτ : TabOK P τ) {s : TypeId} {p x : AV} {f : Nat} {v : Value} (hp : RepV R ι p v) (h : fieldAddrAV τ s p f = some x) :
    ∃ u, (Instr.fieldAt s v f).run P w = .ok u w ∧ RepV R ι x u := by
  unfold fieldAddrAV at h
  split at h
  · rename_i fs hk
    split at h
    · rename_i o ft hf
      split at h
      · cases h
      · rename_i m hm
        obtain ⟨d, i, y, _, _, hu, _, _, hk'⟩ := kindOf_run hτ hk (fun _ _ => trivial) (by simp)
        obtain ⟨fields, rfl, hfs⟩ := hk'
        obtain ⟨i', y', hy', hi', hs'⟩ := sizeAt_run hτ (t := ft) (by omega)
        obtain ⟨fd, hfd, ho, hft⟩ : ∃ fd, fields[f]? = some fd ∧ fd.offset = o ∧ fd.type = ft := by
          rw [← hfs, List.getElem?_map, Option.map_eq_some_iff] at hf
          obtain ⟨fd, h1, h2⟩ := hf
          simp only [Prod.mk.injEq] at h2
          exact ⟨fd, by simpa using h1, h2.1, h2.2⟩
        have hne : ¬ (i'.size = 0) := by omega
        split at h
        · rename_i n i off k
          obtain rfl := Option.some.inj h
          cases hp with
          | ptr _ _ _ _ b c lb hi =>
          refine ⟨.pointer (some ⟨b, i * k + (off + o), none⟩), ?_, .ptr _ _ _ _ _ _ _ hi⟩
          simp [Instr.fieldAt, run_underlying hu, hfd, Instr.sureAddr, fieldPlace, hft, sizeOf_run hi', hne, Addr.add_lit, ho, Nat.add_assoc]
        · rename_i cs
          obtain rfl := Option.some.inj h
          have hp' := rep_d hp
          obtain ⟨b, o', rfl⟩ : ∃ b o', v = .pointer (some ⟨b, o', none⟩) := by cases hp'; exact ⟨_, _, rfl⟩
          refine ⟨.pointer (some ⟨b, o' + o, none⟩), ?_, .d _ _ (vref_drop hp')⟩
          simp [Instr.fieldAt, run_underlying hu, hfd, Instr.sureAddr, fieldPlace, hft, sizeOf_run hi', hne, Addr.add_lit, ho]
        · cases h
    · cases h
  · cases h

/-- A part of a struct or of an array: from a place on. -/
def partAV (τ : Tab) (t : TypeId) (cs : List AV) (o : Nat) : Option AV :=
  match look t τ with
  | some y => (match y.k.isAgg with
    | true => if o + y.size ≤ cs.length then some (mkAgg ((cs.drop o).take y.size)) else none
    | false => cs[o]?)
  | none => none

def aggCells : AV → Option (List AV)
  | .d (.agg cs) => some (cs.map .d)
  | .agg cs => some cs
  | _ => none

theorem aggCells_rep {x : AV} {v : Value} (hx : RepV R ι x v) {cs : List AV} (h : aggCells x = some cs) :
    ∃ vs : List Value, v = .agg vs.toArray ∧ cs.length = vs.length ∧ (∀ u ∈ vs, u.oneCell' = true) ∧ ∀ (i : Nat) (c : AV) (u : Value), cs[i]? = some c → vs[i]? = some u → RepV R ι c u := by
  unfold aggCells at h
  split at h
  · obtain rfl := Option.some.inj h
    cases rep_d hx with
    | agg ds vs hl h1 h =>
    refine ⟨vs, rfl, by simpa using hl, h1, fun i c u hc hu => ?_⟩
    rw [List.getElem?_map, Option.map_eq_some_iff] at hc
    obtain ⟨d, hd, rfl⟩ := hc
    exact .d _ _ (h i d u hd hu)
  · obtain rfl := Option.some.inj h
    cases hx with
    | agg _ vs hl h1 h => exact ⟨vs, rfl, hl, h1, h⟩
  · cases h

theorem part_run (hτ : TabOK P τ) {t : TypeId} {cs : List AV} {vs : List Value} {o : Nat} {x : AV} (hl : cs.length = vs.length) (h1 : ∀ u ∈ vs, u.oneCell' = true)
    (hr : ∀ (i : Nat) (c : AV) (u : Value), cs[i]? = some c → vs[i]? = some u → RepV R ι c u) (h : partAV τ t cs o = some x) :
    ∃ u, (part t vs.toArray o).run P w = .ok u w ∧ RepV R ι x u := by
  unfold partAV at h
  split at h
  · rename_i y hy
    obtain ⟨d, i, hu, hi, hs, _, _, _, hk, _⟩ := hτ.get hy
    split at h
    · rename_i hag
      split at h
      · rename_i hle
        obtain rfl := Option.some.inj h
        refine ⟨.agg ((vs.drop o).take y.size).toArray, ?_, mkAgg_rep (by simp; omega) (fun u hu => h1 u (List.mem_of_mem_drop (List.mem_of_mem_take hu))) fun i c u hc hu => ?_⟩
        · have he : vs.toArray.extract o (o + y.size) = ((vs.drop o).take y.size).toArray := by
            simp [List.take_drop]
          simp [part, Sem.run_bind, TK.isAgg_run hu hk, hag, sizeOf_run hi, hs, he]
        · rw [List.getElem?_take] at hc hu
          split at hc
          · rename_i hlt
            rw [if_pos hlt] at hu
            rw [List.getElem?_drop] at hc hu
            exact hr _ _ _ hc hu
          · cases hc
      · cases h
    · rename_i hag
      have hlt : o < vs.length := hl ▸ (List.getElem?_eq_some_iff.1 h).1
      refine ⟨vs[o], part_scalar hu hk hag (by simp), hr o x _ h (List.getElem?_eq_getElem hlt)⟩
  · cases h

def fieldAV (τ : Tab) (s : TypeId) (x : AV) (f : Nat) : Option AV :=
  match kindOf τ s with
  | .struct fs => (match fs[f]? with
    | some (o, ft) => (match aggCells x with
      | some cs => partAV τ ft cs o
      | none => none)
    | none => none)
  | _ => none

theorem field_run (hτ : TabOK P τ) {s : TypeId} {p x : AV} {f : Nat} {v : Value} (hp : RepV R ι p v) (h : fieldAV τ s p f = some x) :
    ∃ u, (Instr.field s v f).run P w = .ok u w ∧ RepV R ι x u := by
  unfold fieldAV at h
  split at h
  · rename_i fs hk
    split at h
    · rename_i o ft hf
      split at h
      · rename_i cs hcs
        obtain ⟨vs, rfl, hl, h1, hr⟩ := aggCells_rep hp hcs
        obtain ⟨d, i, y, _, _, hu, _, _, hk'⟩ := kindOf_run hτ hk (fun _ _ => trivial) (by simp)
        obtain ⟨fields, rfl, hfs⟩ := hk'
        obtain ⟨fd, hfd, ho, hft⟩ : ∃ fd, fields[f]? = some fd ∧ fd.offset = o ∧ fd.type = ft := by
          rw [← hfs, List.getElem?_map, Option.map_eq_some_iff] at hf
          obtain ⟨fd, h1, h2⟩ := hf
          simp only [Prod.mk.injEq] at h2
          exact ⟨fd, by simpa using h1, h2.1, h2.2⟩
        obtain ⟨u, hu1, hu2⟩ := part_run (P := P) (w := w) hτ hl h1 hr h
        refine ⟨u, ?_, hu2⟩
        simp [Instr.field, run_underlying hu, hfd, asAgg, hft, ho, hu1]
      · cases h
    · cases h
  · cases h

/-! ### Elements -/

def indexAddrAV (A : Ar) (τ : Tab) (t : TypeId) (x ix : AV) : Option AV :=
  match ix with
  | .d (.s (.int _ n)) => (match kindOf τ t with
    | .slice e => (match x with
      | .d (.view k es) => if k = sizeAt τ e then (match A.getD es n with
        | some d => some (.d (.vref d.cells))
        | none => none) else none
      | .own m i len k c => if k = sizeAt τ e then (match A.inB n len with
        | some j => some (.ptr m (A.addN i j) 0 k)
        | none => none) else none
      | _ => none)
    | .array cnt e => (match A.inB n cnt with
      | some j => (match x with
        | .ptr m i off k => some (.ptr m i (off + j * sizeAt τ e) k)
        | .d (.vref cs) => some (.d (.vref (cs.drop (j * sizeAt τ e))))
        | _ => none)
      | none => none)
    | _ => none)
  | _ => none

theorem inB_some {n : Int} {len j : Nat} (h : Ar.real.inB n len = some j) : 0 ≤ n ∧ n < (len : Int) ∧ n.toNat = j ∧ j < len := by
  simp only [Ar.real] at h
  split at h
  · rename_i hc
    obtain rfl := Option.some.inj h
    exact ⟨hc.1, hc.2, rfl, by omega⟩
  · cases h

theorem getI_some {α : Type} {l : List α} {n : Int} {x : α} (h : getI l n = some x) : 0 ≤ n ∧ n < (l.length : Int) ∧ l[n.toNat]? = some x := by
  unfold getI at h
  split at h
  · rename_i h0
    have := (List.getElem?_eq_some_iff.1 h).1
    exact ⟨h0, by omega, h⟩
  · cases h

theorem indexAddr_run (hτ : TabOK P τ) {t : TypeId} {x ix z : AV} {v iv : Value} (hx : RepV R ι x v) (hi : RepV R ι ix iv) (hnz : ∀ e, kindOf τ t = .slice e ∨ (∃ c, kindOf τ t = .array c e) → sizeAt τ e ≠ 0)
    (h : indexAddrAV Ar.real τ t x ix = some z) : ∃ u, (Instr.indexAt t v iv).run P w = .ok u w ∧ RepV R ι z u := by
  unfold indexAddrAV at h
  split at h
  · rename_i ki n
    obtain rfl := rep_s hi
    split at h
    · rename_i e hk
      obtain ⟨d, ti, y, _, _, hu, _, _, hk'⟩ := kindOf_run hτ hk (fun _ _ => trivial) (by simp)
      simp only [TK.ok] at hk'
      subst hk'
      obtain ⟨i', y', hy', hi', hs'⟩ := sizeAt_run hτ (hnz e (.inl hk))
      split at h
      · rename_i k es
        split at h
        · rename_i hdl
          split at h
          · rename_i d hd
            obtain rfl := Option.some.inj h
            obtain ⟨h0, h2, h3⟩ := getI_some (show getI es n = some d from hd)
            cases rep_d hx with
            | nil => simp at h3
            | view _ _ ad cap f hc hmx0 hsp hkk hr hrep =>
            have hkd := hkk _ _ h3
            have hsp' := hsp (by intro e0; subst e0; simp at h3)
            obtain ⟨ab, ao, asp⟩ := ad
            simp only at hsp'
            subst hsp'
            have hks : k = i'.size := by omega
            refine ⟨.pointer (some ⟨ab, ao + n.toNat * k, none⟩), ?_, .d _ _ (.vref _ _ _ (f n.toNat) (fun j c hc => hr _ _ _ _ h3 hc) (fun j c hc => hrep _ _ _ _ h3 hc))⟩
            have hlt : n < (es.length : Int) := h2
            simp [Instr.indexAt, Sc.val, asIntOf, run_underlying hu, h0, hlt, sizeOf_run hi', Addr.add_lit, hks]
          · cases h
        · cases h
      · rename_i m i len k c
        split at h
        · rename_i hks
          split at h
          · rename_i j hj
            obtain rfl := Option.some.inj h
            obtain ⟨h0, h1, h2, h3⟩ := inB_some hj
            cases hx with
            | own _ _ _ _ b cap mm lb _ hi2 hl hm hc =>
            refine ⟨.pointer (some ⟨b, (i + j) * k + 0, none⟩), ?_, .ptr _ _ _ _ _ _ _ hi2⟩
            have hke : k = i'.size := by omega
            simp [Instr.indexAt, Sc.val, asIntOf, run_underlying hu, h0, h1, sizeOf_run hi', Addr.add_lit, ← hke, h2, Nat.add_mul]
          · cases h
        · cases h
      · cases h
    · rename_i cnt e hk
      obtain ⟨d, ti, y, _, _, hu, _, _, hk'⟩ := kindOf_run hτ hk (fun _ _ => trivial) (by simp)
      simp only [TK.ok] at hk'
      subst hk'
      obtain ⟨i', y', hy', hi', hs'⟩ := sizeAt_run hτ (hnz e (.inr ⟨cnt, hk⟩))
      split at h
      · rename_i j hj
        obtain ⟨h0, h1, h2, h3⟩ := inB_some hj
        split at h
        · rename_i m i off k
          obtain rfl := Option.some.inj h
          cases hx with
          | ptr _ _ _ _ b c lb hi2 =>
          refine ⟨.pointer (some ⟨b, i * k + (off + j * sizeAt τ e), none⟩), ?_, .ptr _ _ _ _ _ _ _ hi2⟩
          simp [Instr.indexAt, Sc.val, asIntOf, run_underlying hu, Instr.sureAddr, h0, h1, sizeOf_run hi', Addr.add_lit, hs', h2, Nat.add_assoc]
        · rename_i cs
          obtain rfl := Option.some.inj h
          have hx' := rep_d hx
          obtain ⟨b, o', rfl⟩ : ∃ b o', v = .pointer (some ⟨b, o', none⟩) := by cases hx'; exact ⟨_, _, rfl⟩
          refine ⟨.pointer (some ⟨b, o' + j * sizeAt τ e, none⟩), ?_, .d _ _ (vref_drop hx')⟩
          simp [Instr.indexAt, Sc.val, asIntOf, run_underlying hu, Instr.sureAddr, h0, h1, sizeOf_run hi', Addr.add_lit, hs', h2]
        · cases h
      · cases h
    · cases h
  · cases h

def indexAV (A : Ar) (τ : Tab) (t : TypeId) (x ix : AV) : Option AV :=
  match ix with
  | .d (.s (.int _ n)) => (match kindOf τ t with
    | .string => (match x with
      | .d (.s (.str l)) => (match A.getS l n with
        | some b => some (.d (.s (.int .u8 b)))
        | none => none)
      | _ => none)
    | .array cnt e => (match A.inB n cnt with
      | some j => (match sizeAt τ e, aggCells x with
        | 0, _ => none
        | k, some cs => partAV τ e cs (j * k)
        | _, none => none)
      | none => none)
    | _ => none)
  | _ => none

theorem getS_some {l : List UInt8} {n b : Int} (h : Ar.real.getS l n = some b) : ∃ c, 0 ≤ n ∧ n < (l.length : Int) ∧ l[n.toNat]? = some c ∧ b = (c.toNat : Int) := by
  simp only [Ar.real, Option.map_eq_some_iff] at h
  obtain ⟨c, h1, h2⟩ := h
  obtain ⟨h3, h4, h5⟩ := getI_some h1
  exact ⟨c, h3, h4, h5, h2.symm⟩

theorem index_run (hτ : TabOK P τ) {t : TypeId} {x ix z : AV} {v iv : Value} (hx : RepV R ι x v) (hi : RepV R ι ix iv)
    (h : indexAV Ar.real τ t x ix = some z) : ∃ u, (Instr.index t v iv).run P w = .ok u w ∧ RepV R ι z u := by
  unfold indexAV at h
  split at h
  · rename_i ki n
    obtain rfl := rep_s hi
    split at h
    · rename_i hk
      obtain ⟨d, ti, y, _, _, hu, _, _, hk'⟩ := kindOf_run hτ hk (fun _ _ => trivial) (by simp)
      simp only [TK.ok] at hk'
      subst hk'
      split at h
      · rename_i l
        obtain rfl := rep_s hx
        split at h
        · rename_i b hb
          obtain rfl := Option.some.inj h
          obtain ⟨c, h0, h1, h2, rfl⟩ := getS_some hb
          refine ⟨.int .u8 c.toNat, ?_, .d _ _ (.s (.int .u8 _) (ok_byte c))⟩
          have hg : (ByteArray.mk l.toArray)[Int.toNat n]? = some c := by
            have hlt : n.toNat < l.length := by omega
            rw [List.getElem?_eq_getElem hlt] at h2
            have hsz : n.toNat < (ByteArray.mk l.toArray).size := by rw [str_size]; exact hlt
            rw [getElem?_pos (ByteArray.mk l.toArray) n.toNat hsz]
            exact h2
          simp [Instr.index, Sc.val, asIntOf, run_underlying hu, h0, hg]
        · cases h
      · cases h
    · rename_i cnt e hk
      obtain ⟨d, ti, y, _, _, hu, _, _, hk'⟩ := kindOf_run hτ hk (fun _ _ => trivial) (by simp)
      simp only [TK.ok] at hk'
      subst hk'
      split at h
      · rename_i j hj
        obtain ⟨h0, h1, h2, h3⟩ := inB_some hj
        split at h
        · cases h
        · rename_i cs hcs hne
          obtain ⟨vs, rfl, hl, hone, hr⟩ := aggCells_rep hx hcs
          obtain ⟨i', y', hy', hi', hs'⟩ := sizeAt_run hτ (t := e) (fun e0 => hne e0)
          obtain ⟨u, hu1, hu2⟩ := part_run (P := P) (w := w) hτ hl hone hr h
          refine ⟨u, ?_, hu2⟩
          simp [Instr.index, Sc.val, asIntOf, run_underlying hu, h0, h1, sizeOf_run hi', hs', h2, hu1]
        · cases h
      · cases h
    · cases h
  · cases h

end
end Go.Ua
