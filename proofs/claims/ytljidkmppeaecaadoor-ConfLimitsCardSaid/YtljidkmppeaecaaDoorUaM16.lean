/- The library of this claim and its walks, part 16, joined out of smaller texts. No statement stands in it. -/
import Derived.Test.YtljidkmppeaecaaDoorUaM15
import Derived.ChangeFn
import Derived.DataReads
import Derived.SizedLaws
/- From a row's reading of its arguments to abstract values. A library of this claim's own: no statement stands in it. -/
namespace Go.Ua
open Go Go.Proofs
set_option linter.unusedVariables false
set_option linter.unusedSimpArgs false

section
variable {H : Type}

/-- Cells as the world has them. -/
def rd0 (w : World) : Rd := fun b o v => w.cell? ⟨b, o, none⟩ = some v ∧ v.oneCell' = true

def CellsOK (R : Rd) (l : List Dat) (cs : List Value) : Prop :=
  l.length = cs.length ∧ (∀ v ∈ cs, v.oneCell' = true) ∧ ∀ (j : Nat) (c : Dat) (v : Value), l[j]? = some c → cs[j]? = some v → RepD R c v

theorem CellsOK.one {R : Rd} {c : Dat} {v : Value} (h : RepD R c v) (h1 : v.oneCell' = true) : CellsOK R [c] [v] := by
  refine ⟨rfl, fun u hu => ?_, fun j c' v' hc hv => ?_⟩
  · obtain rfl := List.mem_singleton.1 hu; exact h1
  · cases j with
    | zero => simp only [List.getElem?_cons_zero, Option.some.injEq] at hc hv; subst hc; subst hv; exact h
    | succ j => simp at hc

theorem CellsOK.nil {R : Rd} : CellsOK R [] [] := ⟨rfl, by simp, by simp⟩

theorem CellsOK.append {R : Rd} {l l' : List Dat} {cs cs' : List Value} (h : CellsOK R l cs) (h' : CellsOK R l' cs') : CellsOK R (l ++ l') (cs ++ cs') := by
  refine ⟨by simp [h.1, h'.1], fun v hv => ?_, fun j c v hc hv => ?_⟩
  · rcases List.mem_append.1 hv with hv | hv
    · exact h.2.1 v hv
    · exact h'.2.1 v hv
  · rcases Nat.lt_or_ge j l.length with hj | hj
    · rw [List.getElem?_append_left hj] at hc
      rw [List.getElem?_append_left (by have := h.1; omega)] at hv
      exact h.2.2 j c v hc hv
    · rw [List.getElem?_append_right hj] at hc
      rw [List.getElem?_append_right (by have := h.1; omega), ← h.1] at hv
      exact h'.2.2 _ c v hc hv

end

section
variable {H : Type}
end

section
variable {P : Program} [Globs P] {f : FuncId} {w : World}

theorem rd0_rdOf {b o : Nat} {v : Value} (h : rd0 w b o v) : rdOf (fun _ => False) (fun _ => none) [] w b o v := by
  refine ⟨?_, h⟩
  rintro (h1 | ⟨n, c, l, h1, _⟩)
  · exact h1
  · simp [look] at h1

/-- A law's function, called with what stands in the world. -/
theorem ASpec.calls {args : List AV} {vs : List Value} {b : Bool} (H : ASpec P f args [] 0 (fun x h' fr' => x = .d (.s (.bool b)) ∧ h' = [] ∧ fr' = 0)) (hl : args.length = vs.length) (hG : ∀ b p, Globs.G P b p → ∃ cs t fz, p cs ∧ w.heap[b]? = some (.cells cs.toArray t fz))
    (hr : ∀ (i : Nat) (x : AV) (v : Value), args[i]? = some x → vs[i]? = some v → RepV (rd0 w) (fun _ => none) x v) :
    Calls P f vs.toArray w (fun e w' => e = .returned (.bool b) ∧ RowKit.Below w.heap.size w w') := by
  have h0 : HRel (fun _ => False) (fun _ => False) ⟨w, fun _ => none, 0⟩ (fun _ => none) [] 0 w :=
    ⟨fun n b h => by simp [look] at h, fun n m b c l c' l' h => by simp [look] at h, fun n b c l h => by simp [look] at h, fun n _ => rfl, fun b h => h.elim, Kept.refl _ _, fun n p h => absurd h (by simp)⟩
  refine (H.2 _ _ w _ vs h0 (fun b cs hg => ⟨fun h => h, hG b cs hg⟩) hl fun i x v h1 h2 => (hr i x v h1 h2).mono (fun b o v h => rd0_rdOf h) (fun _ _ h => h)).mono ?_
  rintro e w' ⟨v, x, h', fr', ι', rfl, ⟨rfl, _, _⟩, hrep, hw⟩
  rw [rep_s hrep]
  exact ⟨rfl, hw.kp.below fun k h => h⟩

/-- The same for a specification without names. -/
theorem ASpec.callsE {args : List AV} {vs : List Value} {b : Bool} (H : ESpec P f args (fun x => x = .d (.s (.bool b)))) (hl : args.length = vs.length) (hG : ∀ b p, Globs.G P b p → ∃ cs t fz, p cs ∧ w.heap[b]? = some (.cells cs.toArray t fz))
    (hr : ∀ (i : Nat) (x : AV) (v : Value), args[i]? = some x → vs[i]? = some v → RepV (rd0 w) (fun _ => none) x v) :
    Calls P f vs.toArray w (fun e w' => e = .returned (.bool b) ∧ RowKit.Below w.heap.size w w') := ASpec.calls H hl hG hr

/-- What a package's variable holds, as a statement lays it. -/
theorem block_of_var {P : Program} {w : World} {n : String} {g : Nat} {cs : Array Value} (hg : P.globalNamed n = some g) (h : w.var? P n = some cs) : ∃ t fz, w.heap[g]? = some (.cells cs t fz) := by
  unfold World.var? at h
  rw [hg] at h
  simp only [Option.bind_some] at h
  split at h
  · rename_i c t fz hb
    obtain rfl := Option.some.inj h
    exact ⟨t, fz, hb⟩
  · cases h
/-- The world has grown. -/
theorem HRel.grown {X L : Nat → Prop} {w0 : W0} {ι : Io} {h : List (Nat × Blk)} {fr : Nat} {w w' : World} (H : HRel X L w0 ι h fr w) (b : RowKit.Below w.heap.size w w') : HRel X L w0 ι h fr w' := by
  have hold : ∀ k, k < w.heap.size → w'.heap[k]? = w.heap[k]? := b.block
  refine H.step (ι' := ι) (h' := h) (fun _ _ h => h) (fun k hk hb => ⟨hold k hk, hb⟩) (fun n B hB => .inl ⟨hB, fun k c l hi => ?_⟩) H.inj H.out H.fresh (Y := fun _ => False) ⟨b.os, b.tape, b.output, b.size, fun k hk _ => hold k hk⟩ (fun _ h => h.elim)
  have hb := H.bad_lt (.inr ⟨n, c, l, by rw [hB]; rfl, hi⟩)
  exact hold k hb

/-- A function of the library's that lays new blocks alone. -/
theorem ESpec.grown {P : Program} [Globs P] {f : FuncId} {args : List AV} {z : Sc} (he : Enters P f) (hz : z.ok)
    (H : ∀ (R : Rd) (ι : Io) (vs : List Value) (w : World), (∀ b o v, R b o v → w.cell? ⟨b, o, none⟩ = some v) → (∀ b p, Globs.G P b p → ∃ cs t fz, p cs ∧ w.heap[b]? = some (.cells cs.toArray t fz)) → args.length = vs.length → (∀ (i : Nat) (x : AV) (v : Value), args[i]? = some x → vs[i]? = some v → RepV R ι x v) →
      Calls P f vs.toArray w (fun e w' => e = .returned z.val ∧ RowKit.Below w.heap.size w w')) : ESpec P f args (fun x => x = .d (.s z)) := by
  refine ⟨he, fun X L w ι vs h1 hg h2 h3 => (H _ ι vs w (fun b o v h => h.2.1) (fun b p h => (hg b p h).2) h2 h3).mono ?_⟩
  rintro e w' ⟨rfl, hb⟩
  exact ⟨_, _, [], 0, ι, rfl, ⟨rfl, rfl, rfl⟩, .d _ _ (.s z hz), h1.grown hb⟩

mutual
/-- No string in it is longer than so, no list either. -/
def Dat.sz (N : Nat) : Dat → Prop
  | .s (.str l) => l.length ≤ N
  | .agg cs => Dat.szs N cs
  | .view _ es => Dat.szs N es
  | _ => True
def Dat.szs (N : Nat) : List Dat → Prop
  | [] => True
  | x :: r => x.sz N ∧ Dat.szs N r
end

def strDs (ls : List (List UInt8)) : List Dat := ls.map fun s => .s (.str s)

/-- A function of the library's that hands back a new row of strings. -/
theorem ASpec.rowStrs {P : Program} [Globs P] {f : FuncId} {args : List AV} {E : TypeId} {ls : List (List UInt8)} (he : Enters P f) (hls : ∀ s, s ∈ ls → s.length ≤ maxLen)
    (H : ∀ (R : Rd) (ι : Io) (vs : List Value) (w : World), (∀ b o v, R b o v → w.cell? ⟨b, o, none⟩ = some v) → (∀ b p, Globs.G P b p → ∃ cs t fz, p cs ∧ w.heap[b]? = some (.cells cs.toArray t fz)) → args.length = vs.length → (∀ (i : Nat) (x : AV) (v : Value), args[i]? = some x → vs[i]? = some v → RepV R ι x v) →
      Calls P f vs.toArray w (fun e w' => ∃ v, e = .returned v ∧ w'.ownsRow w.heap.size E 1 v ls.length (ls.map fun s => Value.string ⟨s.toArray⟩) ∧ RowKit.Below w.heap.size w w')) :
    ASpec P f args [] 0 (fun x h' fr' => x = .row 0 1 ∧ h' = [(0, .ds E 1 (strDs ls))] ∧ fr' = 1) := by
  refine ⟨he, fun X L w ι vs h1 hg h2 h3 => (H _ ι vs w (fun b o v h => h.2.1) (fun b p h => (hg b p h).2) h2 h3).mono ?_⟩
  rintro e w' ⟨v, rfl, hown, hb⟩
  have hnone : ∀ n, ι n = none := fun n => h1.fresh n (Nat.zero_le _)
  have step : ∀ pl : Loc, (∀ b c l, pl = .blk b c l → w.heap.size ≤ b) → RepB (rdOf L (upd ι 0 pl) [(0, .ds E 1 (strDs ls))] w') (upd ι 0 pl) w' 0 (.ds E 1 (strDs ls)) →
      HRel X L ⟨w, ι, 0⟩ (upd ι 0 pl) [(0, .ds E 1 (strDs ls))] 1 w' := by
    intro pl hpl hrep
    have hlk : ∀ n B, look n [(0, Blk.ds E 1 (strDs ls))] = some B → n = 0 ∧ B = .ds E 1 (strDs ls) := by
      intro n B hB
      rw [look_cons] at hB
      split at hB
      · rename_i e0
        exact ⟨e0.symm, (Option.some.inj hB).symm⟩
      · simp [look] at hB
    have hlk' : ∀ n, (look n [(0, Blk.ds E 1 (strDs ls))]).isSome = true → n = 0 := by
      intro n hn
      obtain ⟨B, hB⟩ := Option.isSome_iff_exists.1 hn
      exact (hlk n B hB).1
    have hblk : ∀ n b c l, upd ι 0 pl n = some (.blk b c l) → w.heap.size ≤ b := by
      intro n b c l h
      unfold upd at h
      split at h
      · exact hpl _ _ _ (Option.some.inj h)
      · rw [hnone] at h; cases h
    refine h1.step (ι' := upd ι 0 pl) (fun n p h => by rw [hnone] at h; cases h) (fun b hb1 _ => ⟨hb.block b hb1, ?_⟩) (fun n B hB => ?_) (fun n m b c l c' l' hn hm _ _ => by rw [hlk' n hn, hlk' m hm]) (fun n b c l hn h => ?_) (fun n hn => ?_) (Y := fun _ => False)
      ⟨hb.os, hb.tape, hb.output, hb.size, fun k hk _ => hb.block k hk⟩ (fun _ h => h.elim)
    · rintro (h | ⟨n, c, l, _, h⟩)
      · exact ‹¬ bad L ι [] b› (.inl h)
      · have := hblk n b c l h
        omega
    · obtain ⟨rfl, rfl⟩ := hlk n B hB
      exact .inr hrep
    · have hge := hblk n b c l h
      exact ⟨fun hL => by have := h1.lb b hL; simp at this; omega, .inr hge⟩
    · unfold upd
      rw [if_neg (by omega)]
      exact hnone n
  rcases hown with ⟨hxl, ⟨rfl, h0⟩ | ⟨g, cap, cur, rfl, hge, hcell, hn, hcap, hcs, htk⟩⟩
  · have hnil : ls = [] := List.eq_nil_of_length_eq_zero h0
    subst hnil
    refine ⟨_, _, _, 1, upd ι 0 .nil, rfl, ⟨rfl, rfl, rfl⟩, .row0 0 1 none (by simp [upd]), step .nil (fun b c l h => by cases h) (.ds0 E 1 (by simp [upd]) (by decide))⟩
  · have hdl : (strDs ls).length = ls.length := by simp [strDs]
    have hcl : cur.toList.length = cap * 1 := by simpa using hcs
    have hat : ∀ (i : Nat) (s : List UInt8), ls[i]? = some s → cur.toList[i]? = some (Value.string ⟨s.toArray⟩) := by
      intro i s hi
      have hlt : i < ls.length := (List.getElem?_eq_some_iff.1 hi).1
      have h4 : (cur.toList.take (ls.length * 1))[i]? = some (Value.string ⟨s.toArray⟩) := by rw [htk]; simp [hi]
      rwa [List.getElem?_take_of_lt (by omega)] at h4
    refine ⟨_, _, _, 1, upd ι 0 (.blk g cap ls.length), rfl, ⟨rfl, rfl, rfl⟩, .row 0 1 g cap ls.length (by simp [upd]), step _ (fun b c l h => by cases h; exact hge) ?_⟩
    refine .ds E 1 _ g cap cur.toList (by rw [hdl]; simp [upd]) (rowAt.of (by simpa using hcell)) hcl (by rw [hdl]; exact hn) hcap (by decide) (fun i e hi => ?_) (fun v hv => ?_) (fun i e j c v hi hj hv => ?_)
    · simp only [strDs, List.getElem?_map] at hi
      obtain ⟨s, _, rfl⟩ := Option.map_eq_some_iff.1 hi
      rfl
    · rw [hdl, htk] at hv
      obtain ⟨s, _, rfl⟩ := List.mem_map.1 hv
      rfl
    · simp only [strDs, List.getElem?_map] at hi
      obtain ⟨s, hs, rfl⟩ := Option.map_eq_some_iff.1 hi
      have h5 : c = .s (.str s) ∧ j = 0 := by
        match j, hj with
        | 0, hj => exact ⟨(Option.some.inj hj).symm, rfl⟩
        | j + 1, hj => simp [Dat.cells] at hj
      obtain ⟨rfl, rfl⟩ := h5
      have h6 := hat i s hs
      rw [Nat.mul_one, Nat.add_zero] at hv
      rw [hv] at h6
      obtain rfl := Option.some.inj h6
      exact .s (.str s) (hls s (List.mem_of_getElem? hs))

/-- A new row that nobody writes from now on. -/
theorem ESpec.ofRow {P : Program} [Globs P] {f : FuncId} {args : List AV} {E : TypeId} {k : Nat} {es : List Dat} (H : ASpec P f args [] 0 (fun x h' fr' => x = .row 0 k ∧ h' = [(0, .ds E k es)] ∧ fr' = 1)) : ESpec P f args (fun x => x = .d (.view k es)) := by
  refine ⟨H.1, fun X L w ι vs h1 hg h2 h3 => (H.2 X L w ι vs h1 hg h2 h3).mono ?_⟩
  rintro e w' ⟨v, x, h', fr', ι', rfl, ⟨rfl, rfl, rfl⟩, hrep, hw⟩
  have hv := hw.view (n := 0) (k := k) (E := E) (es := es) rfl hrep
  have hf := (hw.forget 0).1
  obtain ⟨g1, g2, g3⟩ := hf.keep (r := id) (fr' := 0) (h' := []) (fun n hn => absurd hn (Nat.not_lt_zero n)) (fun n B h => by simp [look] at h) (fun n m h => by simp [look] at h)
  exact ⟨v, _, [], 0, _, rfl, ⟨rfl, rfl, rfl⟩, .d _ _ (hv.mono g2), g1⟩

end
end Go.Ua

