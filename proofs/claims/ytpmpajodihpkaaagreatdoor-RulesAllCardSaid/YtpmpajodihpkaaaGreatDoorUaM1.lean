/- The library of this claim and its walks, part 1, joined out of smaller texts. No statement stands in it. -/
import Derived.Tactics
import Derived.Deep.LoopGhost
import Derived.Laws.AppendOwn
import Derived.Below
import Derived.KernelRfl
set_option linter.unusedSimpArgs false
set_option linter.unusedVariables false
namespace Go.Ua
open Go
inductive Sc where
 | bool (b : Bool)
 | int (k : IntKind) (n : Int)
 | str (s : List UInt8)
 | ptr0 | sl0 | map0 | fn0 | if0
 | fn (f : FuncId)
 | tok (b o : Nat)
def Sc.val : Sc → Value
 | .bool b => .bool b
 | .int k n => .int k n
 | .str s => .string ⟨s.toArray⟩
 | .ptr0 => .pointer none
 | .sl0 => .slice none 0 0
 | .map0 => .map none
 | .fn0 => .nilFunc
 | .if0 => .nilIface
 | .fn f => .func (.func f) #[] #[]
 | .tok b o => .pointer (some ⟨b, o, none⟩)
def Sc.ok : Sc → Prop
 | .int k n => k.min ≤ n ∧ n ≤ k.max
 | .str s => s.length ≤ maxLen
 | _ => True
inductive Dat where
 | s (x : Sc)
 | agg (cs : List Dat)
 | view (k : Nat) (es : List Dat)
 | iface (t : TypeId) (x : Dat)
 | vref (cs : List Dat)
def Dat.cells : Dat → List Dat
 | .agg cs => cs
 | x => [x]
abbrev Rd := Nat → Nat → Value → Prop
inductive RepD (R : Rd) : Dat → Value → Prop where
 | s (x : Sc) (ho : x.ok) : RepD R (.s x) x.val
 | agg (cs : List Dat) (vs : List Value) (hl : cs.length = vs.length) (h1 : ∀ v ∈ vs, v.oneCell' = true)
     (h : ∀ (i : Nat) (c : Dat) (v : Value), cs[i]? = some c → vs[i]? = some v → RepD R c v) : RepD R (.agg cs) (.agg vs.toArray)
 | nil (k : Nat) : RepD R (.view k []) (.slice none 0 0)
 | view (k : Nat) (es : List Dat) (a : Addr) (cap : Nat) (f : Nat → Nat → Value) (hc : es.length ≤ cap) (hm : cap ≤ maxLen)
     (hsp : es ≠ [] → a.spot = none)
     (hk : ∀ (i : Nat) (e : Dat), es[i]? = some e → e.cells.length = k)
     (hr : ∀ (i : Nat) (e : Dat) (j : Nat) (c : Dat), es[i]? = some e → e.cells[j]? = some c → R a.block (a.off + i * k + j) (f i j))
     (h : ∀ (i : Nat) (e : Dat) (j : Nat) (c : Dat), es[i]? = some e → e.cells[j]? = some c → RepD R c (f i j)) :
     RepD R (.view k es) (.slice (some a) es.length cap)
 | iface (t : TypeId) (x : Dat) (v : Value) (h : RepD R x v) : RepD R (.iface t x) (.iface t v)
 | vref (cs : List Dat) (b o : Nat) (f : Nat → Value) (hr : ∀ (j : Nat) (c : Dat), cs[j]? = some c → R b (o + j) (f j))
     (h : ∀ (j : Nat) (c : Dat), cs[j]? = some c → RepD R c (f j)) : RepD R (.vref cs) (.pointer (some ⟨b, o, none⟩))
theorem RepD.mono {R R' : Rd} (hR : ∀ b o v, R b o v → R' b o v) {x : Dat} {v : Value} (h : RepD R x v) : RepD R' x v := by
 induction h with
 | s x ho => exact .s x ho
 | agg cs vs hl h1 h ih => exact .agg cs vs hl h1 ih
 | nil k => exact .nil k
 | view k es a cap f hc hm hsp hk hr h ih => exact .view k es a cap f hc hm hsp hk (fun i e j c h1 h2 => hR _ _ _ (hr i e j c h1 h2)) ih
 | iface t x v h ih => exact .iface t x v ih
 | vref cs b o f hr h ih => exact .vref cs b o f (fun j c h1 => hR _ _ _ (hr j c h1)) ih
inductive AV where
 | d (x : Dat)
 | agg (cs : List AV)
 | tup (vs : List AV)
 | ptr (n i off k : Nat)
 | row (n k : Nat)
 | own (n i len k : Nat) (c : Option Nat)
 | opt (n : Nat)
 | mp (n : Nat)
 | iface (t : TypeId) (x : AV)
 | fn (f : Fn) (first cap : List AV)
 | nul
 | any
inductive Loc where
 | blk (b cap len : Nat)
 | nil
abbrev Io := Nat → Option Loc
inductive RepV (R : Rd) (ι : Io) : AV → Value → Prop where
 | d (x : Dat) (v : Value) (h : RepD R x v) : RepV R ι (.d x) v
 | agg (cs : List AV) (vs : List Value) (hl : cs.length = vs.length) (h1 : ∀ v ∈ vs, v.oneCell' = true)
     (h : ∀ (i : Nat) (c : AV) (v : Value), cs[i]? = some c → vs[i]? = some v → RepV R ι c v) : RepV R ι (.agg cs) (.agg vs.toArray)
 | tup (cs : List AV) (vs : List Value) (hl : cs.length = vs.length)
     (h : ∀ (i : Nat) (c : AV) (v : Value), cs[i]? = some c → vs[i]? = some v → RepV R ι c v) : RepV R ι (.tup cs) (.tuple vs.toArray)
 | ptr (n i off k b c l : Nat) (h : ι n = some (.blk b c l)) : RepV R ι (.ptr n i off k) (.pointer (some ⟨b, i * k + off, none⟩))
 | opt (n b c l : Nat) (v : Value) (h : ι n = some (.blk b c l)) (hv : v = .pointer none ∨ v = .pointer (some ⟨b, 0, none⟩)) : RepV R ι (.opt n) v
 | mp (n b c l : Nat) (h : ι n = some (.blk b c l)) : RepV R ι (.mp n) (.map (some b))
 | row (n k b cap len : Nat) (h : ι n = some (.blk b cap len)) : RepV R ι (.row n k) (.slice (some ⟨b, 0, none⟩) len cap)
 | row0 (n k : Nat) (a : Option Addr) (h : ι n = some .nil) : RepV R ι (.row n k) (.slice a 0 0)
 | own (n i len k b cap m l : Nat) (c : Option Nat) (h : ι n = some (.blk b cap l)) (hl : len ≤ m) (hm : i + m ≤ cap) (hx : cap ≤ maxLen)
     (hc : (c = none ∧ i + m = cap) ∨ c = some m) :
     RepV R ι (.own n i len k c) (.slice (some ⟨b, i * k, none⟩) len m)
 | iface (t : TypeId) (x : AV) (v : Value) (h : RepV R ι x v) : RepV R ι (.iface t x) (.iface t v)
 | fn (f : Fn) (cs ds : List AV) (vs ws : List Value) (hl : cs.length = vs.length) (hl2 : ds.length = ws.length)
     (h : ∀ (i : Nat) (c : AV) (v : Value), cs[i]? = some c → vs[i]? = some v → RepV R ι c v)
     (h2 : ∀ (i : Nat) (c : AV) (v : Value), ds[i]? = some c → ws[i]? = some v → RepV R ι c v) : RepV R ι (.fn f cs ds) (.func f vs.toArray ws.toArray)
 | nul (a : Option Addr) : RepV R ι .nul (.slice a 0 0)
 | any (v : Value) : RepV R ι .any v
theorem RepV.mono {R R' : Rd} {ι ι' : Io} (hR : ∀ b o v, R b o v → R' b o v) (hι : ∀ n p, ι n = some p → ι' n = some p) {x : AV} {v : Value}
   (h : RepV R ι x v) : RepV R' ι' x v := by
 induction h with
 | d x v h => exact .d x v (h.mono hR)
 | agg cs vs hl h1 h ih => exact .agg cs vs hl h1 ih
 | tup cs vs hl h ih => exact .tup cs vs hl ih
 | ptr n i off k b c l h => exact .ptr n i off k b c l (hι _ _ h)
 | opt n b c l v h hv => exact .opt n b c l v (hι _ _ h) hv
 | mp n b c l h => exact .mp n b c l (hι _ _ h)
 | row n k b cap len h => exact .row n k b cap len (hι _ _ h)
 | row0 n k a h => exact .row0 n k a (hι _ _ h)
 | own n i len k b cap m l c h hl hm hx hc => exact .own n i len k b cap m l c (hι _ _ h) hl hm hx hc
 | iface t x v h ih => exact .iface t x v ih
 | fn f cs ds vs ws hl hl2 h h2 ih ih2 => exact .fn f cs ds vs ws hl hl2 ih ih2
 | nul a => exact .nul a
 | any v => exact .any v
def AV.cells : AV → List AV
 | .d x => x.cells.map .d
 | .agg cs => cs
 | x => [x]
def AV.st : AV → Bool
 | .tup _ | .any => false
 | _ => true
theorem Sc.one (x : Sc) : x.val.oneCell' = true := by cases x <;> rfl
theorem Sc.cells (x : Sc) : x.val.cells = #[x.val] := by cases x <;> rfl
theorem RepD.cells {R : Rd} {x : Dat} {v : Value} (h : RepD R x v) : ∃ vs : List Value, v.cells = vs.toArray ∧ x.cells.length = vs.length ∧
   (∀ u ∈ vs, u.oneCell' = true) ∧ ∀ (j : Nat) (c : Dat) (u : Value), x.cells[j]? = some c → vs[j]? = some u → RepD R c u := by
 cases h with
 | s x ho => exact ⟨[x.val], by rw [x.cells], rfl, by simp [x.one], fun j c u h1 h2 => by
     cases j with
     | zero => simp [Dat.cells] at h1 h2; subst h1; subst h2; exact .s x ho
     | succ j => simp at h2⟩
 | agg cs vs hl h1 h => exact ⟨vs, rfl, hl, h1, h⟩
 | nil k => exact ⟨[.slice none 0 0], rfl, rfl, by simp; rfl, fun j c u h1 h2 => by
     cases j with
     | zero => simp [Dat.cells] at h1 h2; subst h1; subst h2; exact .nil k
     | succ j => simp at h2⟩
 | view k es a cap f hc hm hsp hk hr h => exact ⟨[.slice (some a) es.length cap], rfl, rfl, by simp; rfl, fun j c u h1 h2 => by
     cases j with
     | zero => simp [Dat.cells] at h1 h2; subst h1; subst h2; exact .view k es a cap f hc hm hsp hk hr h
     | succ j => simp at h2⟩
 | iface t x v h => exact ⟨[.iface t v], rfl, rfl, by simp; rfl, fun j c u h1 h2 => by
     cases j with
     | zero => simp [Dat.cells] at h1 h2; subst h1; subst h2; exact .iface t x v h
     | succ j => simp at h2⟩
 | vref cs b o f hr h => exact ⟨[.pointer (some ⟨b, o, none⟩)], rfl, rfl, by simp; rfl, fun j c u h1 h2 => by
     cases j with
     | zero => simp [Dat.cells] at h1 h2; subst h1; subst h2; exact .vref cs b o f hr h
     | succ j => simp at h2⟩
theorem one_cells {R : Rd} {ι : Io} {x : AV} {v : Value} (h : RepV R ι x v) (hx : x.cells = [x]) (hv : v.cells = #[v]) (h1 : v.oneCell' = true) :
   ∃ vs : List Value, v.cells = vs.toArray ∧ x.cells.length = vs.length ∧
   (∀ u ∈ vs, u.oneCell' = true) ∧ ∀ (j : Nat) (c : AV) (u : Value), x.cells[j]? = some c → vs[j]? = some u → RepV R ι c u :=
 ⟨[v], by rw [hv], by rw [hx]; rfl, by simpa using h1, fun j c u h2 h3 => by
   rw [hx] at h2
   cases j with
   | zero => simp at h2 h3; subst h2; subst h3; exact h
   | succ j => simp at h3⟩
theorem RepV.cells {R : Rd} {ι : Io} {x : AV} {v : Value} (h : RepV R ι x v) (hx : x.st = true) : ∃ vs : List Value, v.cells = vs.toArray ∧ x.cells.length = vs.length ∧
   (∀ u ∈ vs, u.oneCell' = true) ∧ ∀ (j : Nat) (c : AV) (u : Value), x.cells[j]? = some c → vs[j]? = some u → RepV R ι c u := by
 have h' := h
 cases h with
 | d x v h =>
   obtain ⟨vs, h1, h2, h3, h4⟩ := h.cells
   refine ⟨vs, h1, by simpa [AV.cells] using h2, h3, fun j c u h5 h6 => ?_⟩
   simp only [AV.cells, List.getElem?_map, Option.map_eq_some_iff] at h5
   obtain ⟨c, h5, rfl⟩ := h5
   exact .d _ _ (h4 j c u h5 h6)
 | agg cs vs hl h1 h => exact ⟨vs, rfl, hl, h1, h⟩
 | tup cs vs hl h => simp [AV.st] at hx
 | ptr n i off k b c l h => exact one_cells h' rfl rfl rfl
 | opt n b c l v h hv => rcases hv with rfl | rfl <;> exact one_cells h' rfl rfl rfl
 | mp n b c l h => exact one_cells h' rfl rfl rfl
 | row n k b cap len h => exact one_cells h' rfl rfl rfl
 | row0 n k a h => exact one_cells h' rfl rfl rfl
 | own n i len k b cap m l c h hl hm hx hc => exact one_cells h' rfl rfl rfl
 | iface t x v h => exact one_cells h' rfl rfl rfl
 | fn f cs ds vs ws hl hl2 h h2 => exact one_cells h' rfl rfl rfl
 | nul a => exact one_cells h' rfl rfl rfl
 | any v => simp [AV.st] at hx
inductive Blk where
 | cs (T : TypeId) (cells : List AV)
 | ds (E : TypeId) (k : Nat) (es : List Dat)
 | xs (E : TypeId) (k m : Nat) (es : List Dat) (cells : List AV)
 | mp (f : List UInt8 → Int)
def mapIs (es : List MapEntry) (f : List UInt8 → Int) : Prop :=
 (es.map (·.key)).Nodup ∧ (∀ e, e ∈ es → ∃ k : List UInt8, e.key = .string ⟨k.toArray⟩ ∧ e.val = .int .i64 (f k)) ∧ ∀ s : List UInt8, (∀ e, e ∈ es → e.key ≠ .string ⟨s.toArray⟩) → f s = 0
def FzOK (fz : Nat × Nat) (n : Nat) : Prop := fz = (0, 0) ∨ n ≤ fz.1
def rowAt (w : World) (b : Nat) (cur : List Value) (E : TypeId) : Prop := ∃ fz, w.heap[b]? = some (.cells cur.toArray E fz) ∧ FzOK fz cur.length
theorem rowAt.of {w : World} {b : Nat} {cur : List Value} {E : TypeId} (h : w.heap[b]? = some (.cells cur.toArray E (0, 0))) : rowAt w b cur E := ⟨_, h, .inl rfl⟩
inductive RepB (R : Rd) (ι : Io) (w : World) (n : Nat) : Blk → Prop where
 | cs (T : TypeId) (cells : List AV) (b cap l : Nat) (cur : List Value) (hi : ι n = some (.blk b cap l)) (hb : w.heap[b]? = some (.cells cur.toArray T (0, 0)))
     (hl : cur.length = cells.length) (h1 : ∀ v ∈ cur, v.oneCell' = true) (h : ∀ (j : Nat) (c : AV) (v : Value), cells[j]? = some c → cur[j]? = some v → RepV R ι c v) : RepB R ι w n (.cs T cells)
 | ds0 (E : TypeId) (k : Nat) (hi : ι n = some .nil) (hk0 : 0 < k) : RepB R ι w n (.ds E k [])
 | ds (E : TypeId) (k : Nat) (es : List Dat) (b cap : Nat) (cur : List Value) (hi : ι n = some (.blk b cap es.length)) (hb : rowAt w b cur E)
     (hl : cur.length = cap * k) (hc : es.length ≤ cap) (hm : cap ≤ maxLen) (hk0 : 0 < k) (hk : ∀ (i : Nat) (e : Dat), es[i]? = some e → e.cells.length = k)
     (h1 : ∀ v ∈ cur.take (es.length * k), v.oneCell' = true)
     (h : ∀ (i : Nat) (e : Dat) (j : Nat) (c : Dat) (v : Value), es[i]? = some e → e.cells[j]? = some c → cur[i * k + j]? = some v → RepD R c v) : RepB R ι w n (.ds E k es)
 | xs (E : TypeId) (k m : Nat) (es : List Dat) (cells : List AV) (b cap : Nat) (cur : List Value) (hi : ι n = some (.blk b cap es.length)) (hb : rowAt w b cur E)
     (hl : cur.length = cap * k) (hc : es.length ≤ cap) (hm : cap ≤ maxLen) (hk0 : 0 < k) (hlen : es.length = m + 1) (hkl : cells.length = k)
     (hk : ∀ (i : Nat) (e : Dat), i < m → es[i]? = some e → e.cells.length = k)
     (h1 : ∀ v ∈ cur.take (es.length * k), v.oneCell' = true)
     (h : ∀ (i : Nat) (e : Dat) (j : Nat) (c : Dat) (v : Value), i < m → es[i]? = some e → e.cells[j]? = some c → cur[i * k + j]? = some v → RepD R c v)
     (h2 : ∀ (j : Nat) (c : AV) (v : Value), cells[j]? = some c → cur[m * k + j]? = some v → RepV R ι c v) : RepB R ι w n (.xs E k m es cells)
 | xs0 (E : TypeId) (k m : Nat) (cells : List AV) (hi : ι n = some .nil) (hk0 : 0 < k) (hkl : cells.length = k) (h2 : ∀ (j : Nat) (c : AV), cells[j]? = some c → ∃ v, RepV R ι c v) : RepB R ι w n (.xs E k m [] cells)
 | mp (f : List UInt8 → Int) (b c l : Nat) (es : Array MapEntry) (clock : Nat) (hi : ι n = some (.blk b c l)) (hb : w.heap[b]? = some (.map es clock)) (hf : mapIs es.toList f)
     (hk : ∀ s, IntKind.i64.min ≤ f s ∧ f s ≤ IntKind.i64.max) : RepB R ι w n (.mp f)
def look {α : Type} (k : Nat) : List (Nat × α) → Option α
 | [] => none
 | p :: r => match Nat.beq p.1 k with
   | true => some p.2
   | false => look k r
theorem look_cons {α : Type} (k : Nat) (p : Nat × α) (r : List (Nat × α)) : look k (p :: r) = if p.1 = k then some p.2 else look k r := by
 simp only [look]
 cases h : Nat.beq p.1 k
 · rw [if_neg (Nat.ne_of_beq_eq_false h)]
 · rw [if_pos (Nat.eq_of_beq_eq_true h)]
def del {α : Type} (k : Nat) : List (Nat × α) → List (Nat × α)
 | [] => []
 | p :: r => match Nat.beq p.1 k with
   | true => del k r
   | false => p :: del k r
theorem del_cons {α : Type} (k : Nat) (p : Nat × α) (r : List (Nat × α)) : del k (p :: r) = if p.1 = k then del k r else p :: del k r := by
 simp only [del]
 cases h : Nat.beq p.1 k
 · rw [if_neg (Nat.ne_of_beq_eq_false h)]
 · rw [if_pos (Nat.eq_of_beq_eq_true h)]
theorem look_del {α : Type} (k j : Nat) (l : List (Nat × α)) : look j (del k l) = if j = k then none else look j l := by
 induction l with
 | nil => simp [look, del]
 | cons p r ih =>
   rw [del_cons]
   by_cases h : p.1 = k
   · rw [if_pos h, ih]
     by_cases hj : j = k
     · simp [hj]
     · rw [if_neg hj, if_neg hj, look_cons, if_neg (by omega)]
   · rw [if_neg h]
     simp only [look_cons, ih]
     by_cases hj : p.1 = j
     · rw [if_pos hj, if_pos hj, if_neg (by omega)]
     · rw [if_neg hj, if_neg hj]
structure St where
 t : List (Nat × AV)
 h : List (Nat × Blk)
 fr : Nat
def St.put (S : St) (d : Option Nat) (x : AV) : St :=
 match d with
 | none => S
 | some d => ⟨(d, x) :: del d S.t, S.h, S.fr⟩
def bad (L : Nat → Prop) (ι : Io) (h : List (Nat × Blk)) (b : Nat) : Prop := L b ∨ ∃ n c l, (look n h).isSome = true ∧ ι n = some (.blk b c l)
def rdOf (L : Nat → Prop) (ι : Io) (h : List (Nat × Blk)) (w : World) : Rd := fun b o v => ¬ bad L ι h b ∧ w.cell? ⟨b, o, none⟩ = some v ∧ v.oneCell' = true
structure Kept (X : Nat → Prop) (w w' : World) : Prop where
 os : w'.os = w.os
 tape : w'.tape = w.tape
 output : w'.output = w.output
 size : w.heap.size ≤ w'.heap.size
 block : ∀ k, k < w.heap.size → ¬ X k → w'.heap[k]? = w.heap[k]?
theorem Kept.refl (X : Nat → Prop) (w : World) : Kept X w w := ⟨rfl, rfl, rfl, Nat.le_refl _, fun _ _ _ => rfl⟩
theorem Kept.trans {X : Nat → Prop} {a b c : World} (h : Kept X a b) (k : Kept X b c) : Kept X a c :=
 ⟨k.os.trans h.os, k.tape.trans h.tape, k.output.trans h.output, Nat.le_trans h.size k.size, fun i hi hx => (k.block i (Nat.lt_of_lt_of_le hi h.size) hx).trans (h.block i hi hx)⟩
theorem Kept.below {X : Nat → Prop} {a b : World} (h : Kept X a b) (hX : ∀ k, ¬ X k) : RowKit.Below a.heap.size a b :=
 ⟨h.os, h.tape, h.output, h.size, fun k hk => h.block k hk (hX k)⟩
theorem Kept.step {X Y : Nat → Prop} {a b c : World} (h : Kept X a b) (k : Kept Y b c) (hY : ∀ n, Y n → X n ∨ a.heap.size ≤ n) : Kept X a c :=
 ⟨k.os.trans h.os, k.tape.trans h.tape, k.output.trans h.output, Nat.le_trans h.size k.size, fun i hi hx =>
   (k.block i (Nat.lt_of_lt_of_le hi h.size) (fun hy => (hY i hy).elim hx (fun hl => by omega))).trans (h.block i hi hx)⟩
structure W0 where
 w : World
 ι : Io
 fr : Nat
structure HRel (X L : Nat → Prop) (w0 : W0) (ι : Io) (h : List (Nat × Blk)) (fr : Nat) (w : World) : Prop where
 hp : ∀ n b, look n h = some b → RepB (rdOf L ι h w) ι w n b
 inj : ∀ n m b c l c' l', (look n h).isSome = true → (look m h).isSome = true → ι n = some (.blk b c l) → ι m = some (.blk b c' l') → n = m
 out : ∀ n b c l, (look n h).isSome = true → ι n = some (.blk b c l) → ¬ L b ∧ (X b ∨ w0.w.heap.size ≤ b)
 fresh : ∀ n, fr ≤ n → ι n = none
 lb : ∀ b, L b → b < w0.w.heap.size
 kp : Kept X w0.w w
 old : ∀ n p, n < w0.fr → w0.ι n = some p → ι n = some p
structure Rel (X L : Nat → Prop) (w0 : W0) (nt : Nat) (ι : Io) (S : St) (a : Act) (w : World) : Prop where
 hr : HRel X L w0 ι S.h S.fr w
 tm : ∀ t x, look t S.t = some x → RepV (rdOf L ι S.h w) ι x (a.tmps.getD t undef)
 sz : a.tmps.size = nt
 df : a.defers = []
section
variable {X L : Nat → Prop} {w0 : W0} {w w' : World} {nt fr fr' : Nat} {ι ι' : Io} {h h' : List (Nat × Blk)} {S : St} {a : Act}
theorem RepB.lt {R : Rd} {n b c l : Nat} {B : Blk} (hB : RepB R ι w n B) (hi : ι n = some (.blk b c l)) : b < w.heap.size := by
 cases hB with
 | cs T cells b' cap l' cur hi' hb => rw [hi] at hi'; cases hi'; exact (Array.getElem?_eq_some_iff.1 hb).1
 | ds0 E k hi' => rw [hi] at hi'; cases hi'
 | ds E k es b' cap cur hi' hb => rw [hi] at hi'; cases hi'; obtain ⟨fz, hb, _⟩ := hb; exact (Array.getElem?_eq_some_iff.1 hb).1
 | xs E k m es cells b' cap cur hi' hb => rw [hi] at hi'; cases hi'; obtain ⟨fz, hb, _⟩ := hb; exact (Array.getElem?_eq_some_iff.1 hb).1
 | xs0 E k m cells hi' => rw [hi] at hi'; cases hi'
 | mp f b' c' l' es clock hi' hb => rw [hi] at hi'; cases hi'; exact (Array.getElem?_eq_some_iff.1 hb).1
theorem RepB.mono {R R' : Rd} (hR : ∀ b o v, R b o v → R' b o v) (hι : ∀ n p, ι n = some p → ι' n = some p) {n : Nat} {B : Blk}
   (hw : ∀ b c l, ι n = some (.blk b c l) → w'.heap[b]? = w.heap[b]?) (hB : RepB R ι w n B) : RepB R' ι' w' n B := by
 cases hB with
 | cs T cells b cap l cur hi hb hl h1 h => exact .cs T cells b cap l cur (hι _ _ hi) ((hw _ _ _ hi).trans hb) hl h1 (fun j c v h2 h3 => (h j c v h2 h3).mono hR hι)
 | ds0 E k hi hk0 => exact .ds0 E k (hι _ _ hi) hk0
 | ds E k es b cap cur hi hb hl hc hm hk0 hk h1 h => exact .ds E k es b cap cur (hι _ _ hi) (by obtain ⟨fz, hb, hf⟩ := hb; exact ⟨fz, (hw _ _ _ hi).trans hb, hf⟩) hl hc hm hk0 hk h1 (fun i e j c v h2 h3 h4 => (h i e j c v h2 h3 h4).mono hR)
 | xs E k m es cells b cap cur hi hb hl hc hm hk0 hlen hkl hk h1 h h2 => exact .xs E k m es cells b cap cur (hι _ _ hi) (by obtain ⟨fz, hb, hf⟩ := hb; exact ⟨fz, (hw _ _ _ hi).trans hb, hf⟩) hl hc hm hk0 hlen hkl hk h1 (fun i e j c v h0 h2 h3 h4 => (h i e j c v h0 h2 h3 h4).mono hR) (fun j c v h3 h4 => (h2 j c v h3 h4).mono hR hι)
 | xs0 E k m cells hi hk0 hkl h2 => exact .xs0 E k m cells (hι _ _ hi) hk0 hkl fun j c h => (h2 j c h).imp fun v hv => hv.mono hR hι
 | mp f b c l es clock hi hb hf hk => exact .mp f b c l es clock (hι _ _ hi) ((hw _ _ _ hi).trans hb) hf hk
theorem HRel.bad_lt (H : HRel X L w0 ι h fr w) {b : Nat} (hb : bad L ι h b) : b < w.heap.size := by
 rcases hb with hb | ⟨n, c, l, hs, hi⟩
 · exact Nat.lt_of_lt_of_le (H.lb b hb) H.kp.size
 · obtain ⟨B, hB⟩ := Option.isSome_iff_exists.1 hs
   exact (H.hp n B hB).lt hi
theorem rdOf_step (hs : ∀ b, b < w.heap.size → ¬ bad L ι h b → w'.heap[b]? = w.heap[b]? ∧ ¬ bad L ι' h' b) :
   ∀ b o v, rdOf L ι h w b o v → rdOf L ι' h' w' b o v := by
 intro b o v ⟨h1, h2, h3⟩
 obtain ⟨h4, h5⟩ := hs b (block_lt_of_cell h2) h1
 exact ⟨h5, by rw [World.cell?_of_block (w := w) (w' := w') (a := ⟨b, o, none⟩) h4]; exact h2, h3⟩
theorem HRel.step (H : HRel X L w0 ι h fr w) (hι : ∀ n p, ι n = some p → ι' n = some p)
   (hs : ∀ b, b < w.heap.size → ¬ bad L ι h b → w'.heap[b]? = w.heap[b]? ∧ ¬ bad L ι' h' b)
   (hp : ∀ n B, look n h' = some B → (look n h = some B ∧ ∀ b c l, ι n = some (.blk b c l) → w'.heap[b]? = w.heap[b]?) ∨ RepB (rdOf L ι' h' w') ι' w' n B)
   (inj : ∀ n m b c l c' l', (look n h').isSome = true → (look m h').isSome = true → ι' n = some (.blk b c l) → ι' m = some (.blk b c' l') → n = m)
   (out : ∀ n b c l, (look n h').isSome = true → ι' n = some (.blk b c l) → ¬ L b ∧ (X b ∨ w0.w.heap.size ≤ b))
   (fresh : ∀ n, fr' ≤ n → ι' n = none) {Y : Nat → Prop} (kp : Kept Y w w') (hY : ∀ n, Y n → X n ∨ w0.w.heap.size ≤ n) :
   HRel X L w0 ι' h' fr' w' :=
 ⟨fun n B hB => (hp n B hB).elim (fun ⟨h1, h2⟩ => (H.hp n B h1).mono (rdOf_step hs) hι h2) id, inj, out, fresh, H.lb, H.kp.step kp hY, fun n p hn h => hι _ _ (H.old n p hn h)⟩
theorem Rel.put (H : Rel X L w0 nt ι S a w) {d : Option Nat} (hd : ∀ n, d = some n → n < nt) {x : AV} {v : Value} (hv : RepV (rdOf L ι S.h w) ι x v) :
   Rel X L w0 nt ι (S.put d x) (a.put d v) w := by
 cases d with
 | none => exact H
 | some d =>
   refine ⟨H.hr, ?_, by simp [Act.put, H.sz], H.df⟩
   intro t y ht
   have hlt := hd d rfl
   have hsz := H.sz
   simp only [St.put, look_cons] at ht
   by_cases e : d = t
   · subst e
     rw [if_pos rfl] at ht
     obtain rfl := Option.some.inj ht
     simp only [Act.put]
     rw [Array.getD_eq_getD_getElem?, Array.getElem?_setIfInBounds]
     simpa [hsz, hlt, St.put] using hv
   · rw [if_neg e, look_del, if_neg (by omega)] at ht
     have := H.tm t y ht
     simp only [Act.put]
     rw [Array.getD_eq_getD_getElem?, Array.getElem?_setIfInBounds, if_neg e, ← Array.getD_eq_getD_getElem?]
     exact this
theorem Rel.world (H : Rel X L w0 nt ι S a w) (H' : HRel X L w0 ι' h' fr' w') (hι : ∀ n p, ι n = some p → ι' n = some p)
   (hs : ∀ b, b < w.heap.size → ¬ bad L ι S.h b → w'.heap[b]? = w.heap[b]? ∧ ¬ bad L ι' h' b) : Rel X L w0 nt ι' ⟨S.t, h', fr'⟩ a w' :=
 ⟨H', fun t x ht => (H.tm t x ht).mono (rdOf_step hs) hι, H.sz, H.df⟩
end
end Go.Ua
