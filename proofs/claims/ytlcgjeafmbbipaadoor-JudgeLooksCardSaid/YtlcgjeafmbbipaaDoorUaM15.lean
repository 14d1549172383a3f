/- The library of this claim and its walks, part 15, joined out of smaller texts. No statement stands in it. -/
import Derived.Test.YtlcgjeafmbbipaaDoorUaM14
import Derived.Lib.SplitLaws
import Derived.Lib.IndexBytes
/- Plain laws of texts: cutting at a byte. A library of this claim's own: no statement stands in it. -/
namespace Go.Ua
open Go Go.Proofs
set_option linter.unusedVariables false
set_option linter.unusedSimpArgs false

/-- The pieces between bytes of one kind. -/
def cutF (c : UInt8) : List UInt8 → List (List UInt8)
  | [] => [[]]
  | b :: r => if b = c then [] :: cutF c r else match cutF c r with
    | p :: ps => (b :: p) :: ps
    | [] => [[b]]

theorem cutF_ne (c : UInt8) (s : List UInt8) : cutF c s ≠ [] := by
  cases s with
  | nil => simp [cutF]
  | cons b r =>
    unfold cutF
    split
    · simp
    · split <;> simp

theorem cutF_index (c : UInt8) : ∀ s : List UInt8, (Lib.indexByte s c = -1 → cutF c s = [s] ∧ s.count c = 0) ∧
    (∀ i : Nat, Lib.indexByte s c = i → cutF c s = s.take i :: cutF c (s.drop (i + 1)) ∧ s.count c = (s.drop (i + 1)).count c + 1)
  | [] => ⟨fun _ => ⟨rfl, rfl⟩, fun i h => by simp [Lib.indexByte] at h⟩
  | b :: l => by
    obtain ⟨h1, h2⟩ := cutF_index c l
    have hge := Lib.indexByte_ge l c
    unfold Lib.indexByte
    rw [show cutF c (b :: l) = (if b = c then [] :: cutF c l else match cutF c l with
      | p :: ps => (b :: p) :: ps
      | [] => [[b]]) from rfl]
    by_cases e : b = c
    · subst e
      simp only [beq_self_eq_true, if_true]
      refine ⟨fun h => absurd h (by decide), fun i h => ?_⟩
      obtain rfl : i = 0 := by omega
      simp
    · have e' : (b == c) = false := by simpa using e
      rw [e', if_neg (by simp), if_neg e]
      by_cases e3 : Lib.indexByte l c = -1
      · obtain ⟨g1, g2⟩ := h1 e3
        rw [e3, g1]
        refine ⟨fun _ => ⟨rfl, by rw [List.count_cons, g2, e']; rfl⟩, fun i h => ?_⟩
        simp at h
      · obtain ⟨j, hj⟩ : ∃ j : Nat, Lib.indexByte l c = j := ⟨(Lib.indexByte l c).toNat, by omega⟩
        obtain ⟨g1, g2⟩ := h2 j hj
        have e3' : (Lib.indexByte l c == -1) = false := by simpa using e3
        rw [e3', if_neg (by simp), g1, hj]
        refine ⟨fun h => by omega, fun i h => ?_⟩
        obtain rfl : i = j + 1 := by omega
        refine ⟨by simp, ?_⟩
        rw [List.count_cons, e', g2]
        simp

theorem splitK_cut (c : UInt8) : ∀ (k : Nat) (s : List UInt8), s.count c = k → Lib.splitK [c] 0 k s = cutF c s
  | 0, s, h => by
    unfold Lib.splitK
    by_cases e : Lib.indexByte s c = -1
    · rw [((cutF_index c s).1 e).1]
    · have hge := Lib.indexByte_ge s c
      obtain ⟨j, hj⟩ : ∃ j : Nat, Lib.indexByte s c = j := ⟨(Lib.indexByte s c).toNat, by omega⟩
      have := ((cutF_index c s).2 j hj).2
      omega
  | k + 1, s, h => by
    have hge := Lib.indexByte_ge s c
    by_cases e : Lib.indexByte s c = -1
    · have := ((cutF_index c s).1 e).2
      omega
    · obtain ⟨j, hj⟩ : ∃ j : Nat, Lib.indexByte s c = j := ⟨(Lib.indexByte s c).toNat, by omega⟩
      obtain ⟨g1, g2⟩ := (cutF_index c s).2 j hj
      unfold Lib.splitK
      have e' : (Lib.index s [c] == -1) = false := by rw [Lib.index_one]; simpa using e
      rw [e', if_neg (by simp), Lib.index_one, hj, g1]
      simp only [Int.toNat_natCast, Nat.add_zero, List.length_singleton]
      rw [splitK_cut c k _ (by omega)]

theorem splitB_cut (c : UInt8) (s : List UInt8) : (Lib.splitB ⟨#[c]⟩ 0 (Lib.countB ⟨s.toArray⟩ ⟨#[c]⟩) ⟨s.toArray⟩).map (·.data.toList) = cutF c s := by
  rw [Lib.splitB_data]
  have hc : Lib.countB ⟨s.toArray⟩ ⟨#[c]⟩ = s.count c := by
    show Lib.count s [c] = _
    exact Lib.count_one c s
  rw [hc]
  show Lib.splitK [c] 0 (s.count c) s = _
  exact splitK_cut c _ s rfl

theorem cutF_all {c : UInt8} : ∀ {s p : List UInt8}, p ∈ cutF c s → p.length ≤ s.length
  | [], p, h => by simp [cutF] at h; subst h; simp
  | b :: r, p, h => by
    unfold cutF at h
    split at h
    · rcases List.mem_cons.1 h with rfl | h
      · simp
      · have := cutF_all h
        simp; omega
    · cases hr : cutF c r with
      | nil => exact absurd hr (cutF_ne c r)
      | cons q qs =>
        rw [hr] at h
        rcases List.mem_cons.1 h with rfl | h
        · have := cutF_all (c := c) (s := r) (p := q) (by rw [hr]; simp)
          simp; omega
        · have := cutF_all (c := c) (s := r) (p := p) (by rw [hr]; exact List.mem_cons_of_mem _ h)
          simp; omega
theorem cutF_len (c : UInt8) : ∀ s : List UInt8, (cutF c s).length = s.count c + 1
  | [] => rfl
  | b :: r => by
    have := cutF_len c r
    unfold cutF
    split
    · rename_i e
      subst e
      simp [this]
    · rename_i e
      cases hr : cutF c r with
      | nil => exact absurd hr (cutF_ne c r)
      | cons q qs =>
        rw [hr] at this
        simp only [List.length_cons] at this ⊢
        rw [List.count_cons, this]
        simp [e]
end Go.Ua

/- strings.Split. -/
namespace Go.Proofs.YtlcgjeafmbbipaaDoor
open Go Go.Proofs Go.Ua Go.Extern
set_option linter.unusedVariables false
set_option linter.unusedSimpArgs false

theorem below_alloc (w : World) (o : Obj) : RowKit.Below w.heap.size w (w.alloc o) :=
  (RowKit.Below.refl _ w).alloc (Nat.le_refl _) o
theorem heap_alloc_at (w : World) (o : Obj) : (w.alloc o).heap[w.heap.size]? = some o := by
  show (w.heap.push o)[w.heap.size]? = some o
  simp

theorem Split_spec (s : List UInt8) (c : UInt8) (hs : s.length < 4294967281) :
    ASpec Tryd.prog 19 [.d (.s (.str s)), .d (.s (.str [c]))] [] 0 (fun x h' fr' => x = .row 0 1 ∧ h' = [(0, .ds 9 1 (strDs (cutF c s)))] ∧ fr' = 1) := by
  have hm : maxLen = 9223372036854775807 := by decide
  refine ASpec.rowStrs (enters_of Tryd.func19 (by kernel_rfl) rfl) (fun p hp => by have := cutF_all hp; omega) fun R ι vs w hR hG hl hr => ?_
  obtain ⟨v0, v1, rfl⟩ : ∃ v0 v1, vs = [v0, v1] := by
    match vs, hl with
    | [v0, v1], _ => exact ⟨v0, v1, rfl⟩
  obtain rfl := rep_s (hr 0 _ _ rfl rfl)
  obtain rfl := rep_s (hr 1 _ _ rfl rfl)
  obtain ⟨cs, t, fz, ⟨m, hm0⟩, hb⟩ := hG 0 _ G_maxlen
  have hcell : w.cell? ⟨0, 0, none⟩ = some (.int .i64 m) := by
    unfold World.cell?
    rw [hb]
    simpa using hm0
  have hlen : Lib.countB ⟨s.toArray⟩ ⟨#[c]⟩ + 1 = (cutF c s).length := by
    rw [cutF_len]
    show Lib.count s [c] + 1 = _
    rw [Lib.count_one]
  have hcnt : (cutF c s).length ≤ 4294967281 := by
    rw [cutF_len]
    have := List.count_le_length (a := c) (l := s)
    omega
  refine (Tryd.strings_Split ⟨s.toArray⟩ ⟨#[c]⟩ m w (by rw [str_size]; exact hs) hcell (by show 1 ≤ 1; decide)).mono ?_
  rintro e w' ⟨rfl, rfl⟩
  have hxs : (cutF c s).map (fun p => Value.string ⟨p.toArray⟩) = (Lib.splitB ⟨#[c]⟩ 0 (Lib.countB ⟨s.toArray⟩ ⟨#[c]⟩) ⟨s.toArray⟩).map Value.string := by
    rw [← splitB_cut, List.map_map]
    refine List.map_congr_left fun b _ => ?_
    simp
  rw [← hxs, hlen]
  refine ⟨_, rfl, ⟨by simp, .inr ⟨w.heap.size, _, _, rfl, Nat.le_refl _, heap_alloc_at _ _, Nat.le_refl _, by omega, by simp, ?_⟩⟩, below_alloc _ _⟩
  simp only [Nat.mul_one]
  exact List.take_of_length_le (by simp)

end Go.Proofs.YtlcgjeafmbbipaaDoor

/- slices.Contains; lines. -/
namespace Go.Proofs.YtlcgjeafmbbipaaDoor
open Go Go.Proofs Go.Ua Go.Extern
set_option linter.unusedVariables false
set_option linter.unusedSimpArgs false

theorem strDs_get {zs : List (List UInt8)} {i : Nat} {s : List UInt8} (h : zs[i]? = some s) : (strDs zs)[i]? = some (.s (.str s)) := by simp [strDs, h]

theorem l_cutD0 {F : Fam} (hF : F = Fam.real) {es : List Dat} {i : Nat} {iv : Int} (hi : iv = i) (h : i ≤ es.length) : F .cutD es 0 iv = some (es.take i) := by
  subst hF; subst hi
  show cutI es 0 (i : Int) = _
  unfold cutI
  rw [if_pos ⟨by omega, by omega, by omega⟩]
  simp

/-- What a list of strings is in memory. -/
theorem view_strs {R : Rd} {zs : List (List UInt8)} {v : Value} (h : RepD R (.view 1 (strDs zs)) v) :
    (zs = [] ∧ ∃ a cap, v = .slice a 0 cap) ∨ (∃ b off cap, v = .slice (some ⟨b, off, none⟩) zs.length cap ∧ zs.length ≤ cap ∧ zs.length ≤ maxLen ∧ ∀ (j : Nat) (s : List UInt8), zs[j]? = some s → R b (off + j) (.string ⟨s.toArray⟩)) := by
  generalize hx : Dat.view 1 (strDs zs) = x at h
  cases h with
  | nil k =>
    injection hx with _ hz
    have : zs = [] := by simpa [strDs] using hz
    exact .inl ⟨this, _, _, rfl⟩
  | view k es a cap f hc hm hsp hk hr h =>
    cases hx
    by_cases h0 : zs = []
    · subst h0
      exact .inl ⟨rfl, _, _, rfl⟩
    · have hs := hsp (by simpa [strDs] using h0)
      have hl : (strDs zs).length = zs.length := by simp [strDs]
      rw [hl] at hc
      refine .inr ⟨a.block, a.off, cap, ?_, hc, Nat.le_trans hc hm, fun j s hj => ?_⟩
      · rw [hl]
        obtain ⟨b, o, sp⟩ := a
        simp only at hs
        subst hs
        rfl
      · have h1 := hr j _ 0 _ (strDs_get hj) rfl
        have h2 := (h j _ 0 _ (strDs_get hj) rfl).sc
        rw [Nat.mul_one, Nat.add_zero, h2] at h1
        exact h1
  | _ => cases hx

/-- A text's lines. -/
def linesF (s : List UInt8) : List (List UInt8) := if (cutF 10 s).getLastD [] = [] then (cutF 10 s).dropLast else cutF 10 s

theorem Lines_spec (s : List UInt8) (hs : s.length < 4294967281) : ESpec Tryd.prog 13 [.d (.s (.str s))] (fun x => x = .d (.view 1 (strDs (linesF s)))) := by
  have sp := ESpec.ofRow (Split_spec s 10 hs)
  have hl1 := cutF_len 10 s
  have hcl := List.count_le_length (a := (10 : UInt8)) (l := s)
  obtain ⟨c10, hc10⟩ : ∃ c : List UInt8, c = [10] := ⟨_, rfl⟩
  rw [← hc10] at sp
  obtain ⟨es, hes⟩ : ∃ z, z = strDs (cutF 10 s) := ⟨_, rfl⟩
  rw [← hes] at sp
  obtain ⟨z, hz⟩ : ∃ z, z = strDs (linesF s) := ⟨_, rfl⟩
  rw [← hz]
  refine ESpec.enter Tryd.func13 (by kernel_rfl) rfl (Nat.le_of_ble_eq_true rfl) fun hok cx hnt hfr => ?_
  obtain ⟨F, hF⟩ := real_ex
  refine AK.run hF tabOK hnt ?_
  conv => arg 4; cbv
  rw [hc10] at sp
  have hne : es ≠ [] := by rw [hes]; simpa [strDs] using cutF_ne 10 s
  have hel : es.length = (cutF 10 s).length := by rw [hes]; simp [strDs]
  have h1 : 1 ≤ es.length := by
    cases es with
    | nil => exact absurd rfl hne
    | cons _ _ => simp
  obtain ⟨iv, hiv⟩ : ∃ z, z = F .wrap .i64 (F .sub (F .lenD es) 1) := ⟨_, rfl⟩
  have hiv' : iv = ((es.length - 1 : Nat) : Int) := by
    rw [hiv, hF]
    show IntKind.i64.wrap ((es.length : Int) - 1) = _
    rw [w_i64 (by omega) (by omega)]
    omega
  obtain ⟨p, hp⟩ : ∃ p, (cutF 10 s)[es.length - 1]? = some p := ⟨_, List.getElem?_eq_getElem (by omega)⟩
  have hlast : (cutF 10 s).getLastD [] = p := by
    rw [List.getLastD_eq_getLast?, List.getLast?_eq_getElem?, ← hel, hp]; rfl
  have hg : F .getD es iv = some (.s (.str p)) := l_getD hF (i := es.length - 1) (by rw [hes]; rw [hes] at hp; exact strDs_get hp) hiv'
  refine AKp.call hF tabOK hnt sp rfl rfl rfl rfl rfl rfl rfl (by repeat' first | exact .refl _ | constructor) ?_
  rintro _ rfl
  conv => arg 4; cbv
  rw [← hiv, hg]
  conv => arg 4; cbv
  cases hb : F .eqS p []
  case' true =>
    have hb' := eqS1 hF hb
    have hzz : z = es.take (es.length - 1) := by
      rw [hz, linesF, if_pos (by rw [hlast, hb'])]
      rw [List.dropLast_eq_take, hes]
      simp [strDs]
    conv => arg 4; cbv
    rw [← hiv, l_cutD0 hF hiv' (by omega), ← hzz]
    conv => arg 4; cbv
    exact AKp.doneE tabOK hfr (by rfl) (by rfl)
  case' false =>
    have hb' := eqS0 hF hb
    conv => arg 4; cbv
    rw [show es = z by rw [hz, linesF, if_neg (by rw [hlast]; exact hb'), hes]]
    exact AKp.doneE tabOK hfr (by rfl) (by rfl)
end Go.Proofs.YtlcgjeafmbbipaaDoor

/- Lists of words. -/
namespace Go.Proofs.YtlcgjeafmbbipaaDoor
open Go Go.Proofs Go.Ua Go.Extern
set_option linter.unusedVariables false
set_option linter.unusedSimpArgs false

/-- These are the words of a list. -/
def goodF (l : List (List UInt8)) : Bool := (l == [[42]]) || (l.all wordF && decide l.Nodup && decide (l.length ≤ 8))

theorem nodup_take_succ {α : Type} {l : List α} {i : Nat} {x : α} (h : l[i]? = some x) : (l.take (i + 1)).Nodup ↔ (l.take i).Nodup ∧ x ∉ l.take i := by
  rw [List.take_add_one, h]
  simp only [Option.toList_some]
  rw [List.nodup_append]
  constructor
  · rintro ⟨h1, _, h3⟩
    exact ⟨h1, fun hm => h3 x hm x (by simp) rfl⟩
  · rintro ⟨h1, h2⟩
    refine ⟨h1, by simp, fun a ha b hb => ?_⟩
    obtain rfl := List.mem_singleton.1 hb
    rintro rfl
    exact h2 ha

end Go.Proofs.YtlcgjeafmbbipaaDoor

/- Lists, as texts. -/
namespace Go.Proofs.YtlcgjeafmbbipaaDoor
open Go Go.Proofs Go.Ua Go.Extern
set_option linter.unusedVariables false
set_option linter.unusedSimpArgs false

def listF (w : List UInt8) : Option (List (List UInt8)) := if w = [45] then some [] else if 520 < w.length then none else if goodF (cutF 44 w) = true then some (cutF 44 w) else none
def listAV : Option (List (List UInt8)) → AV
  | some l => .tup [.d (.view 1 (strDs l)), .d (.s (.bool true))]
  | none => .tup [.d (.view 1 []), .d (.s (.bool false))]

theorem space_spec (n : Int) : ESpec Tryd.prog 36 [.d (.s (.int .i32 n))] (fun x => x = .d (.s (.bool (n == 32)))) := by
  obtain ⟨z, hz⟩ : ∃ z, z = (n == 32) := ⟨_, rfl⟩
  rw [← hz]
  refine ESpec.enter Tryd.func36 (by kernel_rfl) rfl (Nat.le_of_ble_eq_true rfl) fun _ cx hnt hfr => ?_
  obtain ⟨F, hF⟩ := real_ex
  refine AK.run hF tabOK hnt ?_
  conv => arg 4; cbv
  rw [show F .eqI n 32 = z by rw [hz, l_eqI hF]]
  exact AKp.doneE tabOK hfr (by rfl) (by rfl)
end Go.Proofs.YtlcgjeafmbbipaaDoor

/- The words of a line. -/
namespace Go.Proofs.YtlcgjeafmbbipaaDoor
open Go Go.Proofs Go.Ua Go.Extern
set_option linter.unusedVariables false
set_option linter.unusedSimpArgs false

def isBlank (x : Nat) : Bool := (x : Int) == 32
def fieldsF (s : List UInt8) : List (List UInt8) := (Lib.goFieldsP isBlank ⟨s.toArray⟩).map (·.data.toList)

theorem FieldsFunc_spec (s : List UInt8) (hs : s.length ≤ 4294967296) (hlen : ∀ p, p ∈ fieldsF s → p.length ≤ maxLen) :
    ASpec Tryd.prog 35 [.d (.s (.str s)), .d (.s (.fn 36))] [] 0 (fun x h' fr' => x = .row 0 1 ∧ h' = [(0, .ds 9 1 (strDs (fieldsF s)))] ∧ fr' = 1) := by
  refine ASpec.rowStrs (enters_of Tryd.func35 (by kernel_rfl) rfl) hlen fun R ι vs w hR hG hl hr => ?_
  obtain ⟨v0, v1, rfl⟩ : ∃ v0 v1, vs = [v0, v1] := by
    match vs, hl with
    | [v0, v1], _ => exact ⟨v0, v1, rfl⟩
  obtain rfl := rep_s (hr 0 _ _ rfl rfl)
  obtain rfl := rep_s (hr 1 _ _ rfl rfl)
  have hp : PredGrows Tryd.prog 36 #[] isBlank w := by
    intro W x hx hb
    refine (ASpec.callsE (space_spec (x : Int)) (w := W) (vs := [.int .i32 x]) rfl (fun b p hg => ?_) fun i y v hy hv => ?_).mono fun e W' h => ?_
    · obtain ⟨cs, t, fz, h1, h2⟩ := hG b p hg
      exact ⟨cs, t, fz, h1, by rw [hb.block b (Array.getElem?_eq_some_iff.1 h2).1]; exact h2⟩
    · match i, hy, hv with
      | 0, hy, hv =>
        cases hy; cases hv
        exact .d _ _ (.s (.int .i32 x) ⟨by show (-2147483648 : Int) ≤ _; omega, by show _ ≤ (2147483647 : Int); omega⟩)
      | i + 1, hy, hv => cases hy
    · exact h
  refine (Tryd.strings_FieldsFunc_grows 36 #[] (fun args w => enters_of Tryd.func36 (by kernel_rfl) rfl args w) isBlank ⟨s.toArray⟩ w (by rw [str_size]; exact hs) hp).mono ?_
  rintro e w' ⟨A, rfl, hA, hown, hb⟩
  refine ⟨_, rfl, ?_, hb⟩
  have e1 : (fieldsF s).map (fun p => Value.string ⟨p.toArray⟩) = (Lib.goFieldsP isBlank ⟨s.toArray⟩).map Value.string := by
    unfold fieldsF
    rw [List.map_map]
    exact List.map_congr_left fun b _ => by simp
  have e2 : (fieldsF s).length = (Lib.goFieldsP isBlank ⟨s.toArray⟩).length := by unfold fieldsF; simp
  rw [e1, e2]
  exact hown

theorem WordsV_spec (s : List UInt8) (hs : s.length ≤ 4294967296) (hlen : ∀ p, p ∈ fieldsF s → p.length ≤ maxLen) : ESpec Tryd.prog 21 [.d (.s (.str s))] (fun x => x = .d (.view 1 (strDs (fieldsF s)))) := by
  have sp := ESpec.ofRow (FieldsFunc_spec s hs hlen)
  obtain ⟨es, hes⟩ : ∃ z, z = strDs (fieldsF s) := ⟨_, rfl⟩
  rw [← hes] at sp ⊢
  refine ESpec.enter Tryd.func21 (by kernel_rfl) rfl (Nat.le_of_ble_eq_true rfl) fun _ cx hnt hfr => ?_
  obtain ⟨F, hF⟩ := real_ex
  refine AK.run hF tabOK hnt ?_
  conv => arg 4; cbv
  refine AKp.call hF tabOK hnt sp rfl rfl rfl rfl rfl rfl rfl (by repeat' first | exact .refl _ | constructor) ?_
  rintro _ rfl
  conv => arg 4; cbv
  exact AKp.doneE tabOK hfr (by rfl) (by rfl)
end Go.Proofs.YtlcgjeafmbbipaaDoor

/- Powers of two. -/
namespace Go.Proofs.YtlcgjeafmbbipaaDoor
open Go Go.Proofs Go.Ua Go.Extern
set_option linter.unusedVariables false
set_option linter.unusedSimpArgs false

theorem AKp.pure1 {cx : Cx Tryd.prog} {Q : Exit → Act → World → Prop} {F : Fam} (hF : F = Fam.real) {n : Nat} (hn : cx.nt = n) {all r : List Oper} {k : List KI} {S : St} {o : Oper} (z : AV) (hg : guardB all S o = some true) (hd : dstB n o = true)
    (H : ∀ ι a w, Rel cx.X cx.L cx.w0 cx.nt ι S a w → ∃ v, (execOp a.eval o).run Tryd.prog w = .ok (.value v) w ∧ RepV (rdOf cx.L ι S.h w) ι z v)
    (next : AKp Tryd.prog cx Q (runC (Ar.of F) tab n 100000 (.ops all r :: k) (S.put o.dst z))) : AKp Tryd.prog cx Q (.ops all (o :: r) :: k, S) := by
  refine AKp.op (S' := S) hF tabOK hn hg hd (fun ι a w HR => ?_) next
  obtain ⟨v, h1, h2⟩ := H ι a w HR
  exact ⟨v, w, ι, h1, HR, h2⟩

theorem isPow_spec : ESpec Tryd.prog 93 [.d (.s (.int .i64 16))] (fun x => x = .d (.s (.bool true))) := by
  refine ESpec.enter Tryd.func93 (by kernel_rfl) rfl (Nat.le_of_ble_eq_true rfl) fun _ cx hnt hfr => ?_
  obtain ⟨F, hF⟩ := real_ex
  refine AK.run hF tabOK hnt ?_
  conv => arg 4; cbv
  rw [show F .eqI (F .bits .and .i64 16 (F .wrap .i64 (F .sub 16 1))) 0 = true by rw [hF]; decide +kernel]
  exact AKp.doneE tabOK hfr (by rfl) (by rfl)

theorem at5 (w : World) : (Instr.indexAt 135 (.pointer (some ⟨5, 0, none⟩)) (.int .u64 15)).run Tryd.prog w = .ok (.pointer (some ⟨5, 15, none⟩)) w := by kernel_rfl
theorem TZ64_spec : ESpec Tryd.prog 96 [.d (.s (.int .u64 16))] (fun x => x = .d (.s (.int .i64 4))) := by
  refine ESpec.enter Tryd.func96 (by kernel_rfl) rfl (Nat.le_of_ble_eq_true rfl) fun _ cx hnt hfr => ?_
  obtain ⟨F, hF⟩ := real_ex
  refine AK.run hF tabOK hnt ?_
  conv => arg 4; cbv
  rw [show F .eqI 16 0 = false by rw [hF]; decide +kernel]
  conv => arg 4; cbv
  rw [show F .shr .u64 (F .wrap .u64 (F .mul (F .bits .and .u64 16 (F .wrap .u64 (F .sub 0 16))) 285870213051353865)) 58 = some 15 by rw [hF]; decide +kernel]
  conv => arg 4; cbv
  rw [show F .inB 15 64 = some 15 by rw [hF]; decide +kernel]
  conv => arg 4; cbv
  refine AKp.pure1 hF hnt (.d (.s (.tok 5 15))) rfl rfl (fun ι a w HR => ?_) ?_
  · have h2 : a.eval (.tmp 10) = .int .u64 15 := rep_s (HR.evl (.tmp 10))
    refine ⟨.pointer (some ⟨5, 15, none⟩), ?_, .d _ _ (.s (.tok 5 15) trivial)⟩
    simp only [execOp, h2]
    rw [show a.eval (.global 5) = .pointer (some ⟨5, 0, none⟩) from rfl]
    simp only [Sem.run_bind, at5, Result.andThen_ok, Sem.run_pure]
  conv => arg 4; cbv
  refine AKp.pure1 hF hnt (.d (.s (.int .u8 4))) rfl rfl (fun ι a w HR => ?_) ?_
  · have h2 : a.eval (.tmp 11) = .pointer (some ⟨5, 15, none⟩) := rep_s (HR.evl (.tmp 11))
    obtain ⟨h1, cs, tg, fz, hp, hb⟩ := cx.gok 5 _ G_db64
    have hb0 : 5 < cx.w0.w.heap.size := (Array.getElem?_eq_some_iff.1 hb).1
    have hw : w.cell? ⟨5, 15, none⟩ = some (.int .u8 4) := by
      unfold World.cell?
      rw [HR.hr.kp.block 5 hb0 h1, hb]
      simpa using hp
    refine ⟨.int .u8 4, ?_, .d _ _ (.s (.int .u8 4) ⟨by decide, by decide⟩)⟩
    simp only [execOp, h2]
    simp [Sem.run_bind, Instr.loadAt, Instr.sureAddr, loadVar, isAgg, underlying, Tryd.underlying5, hw, Result.andThen]
  conv => arg 4; cbv
  rw [show F .wrap .i64 4 = 4 by rw [hF]; decide +kernel]
  exact AKp.doneE tabOK hfr (by rfl) (by rfl)

theorem TZ_spec : ESpec Tryd.prog 94 [.d (.s (.int .u64 16))] (fun x => x = .d (.s (.int .i64 4))) := by
  refine ESpec.enter Tryd.func94 (by kernel_rfl) rfl (Nat.le_of_ble_eq_true rfl) fun _ cx hnt hfr => ?_
  obtain ⟨F, hF⟩ := real_ex
  refine AK.run hF tabOK hnt ?_
  conv => arg 4; cbv
  refine AKp.call hF tabOK hnt TZ64_spec rfl rfl rfl rfl rfl rfl rfl (by repeat' first | exact .refl _ | constructor) ?_
  rintro _ rfl
  conv => arg 4; cbv
  exact AKp.doneE tabOK hfr (by rfl) (by rfl)
end Go.Proofs.YtlcgjeafmbbipaaDoor

/- A piece of an array that nobody writes from now on; formatBits at base 16. -/
namespace Go.Proofs.YtlcgjeafmbbipaaDoor
open Go Go.Proofs Go.Ua Go.Extern
set_option linter.unusedVariables false
set_option linter.unusedSimpArgs false

def isSc : Dat → Bool
  | .s _ => true
  | _ => false
theorem isSc_cells {cs : List Dat} (h : cs.all isSc = true) : ∀ c, c ∈ cs → c.cells = [c] := by
  intro c hc
  have := List.all_eq_true.1 h c hc
  cases c <;> first | rfl | (simp [isSc] at this)

theorem AKp.sliceArr {cx : Cx Tryd.prog} {Q : Exit → Act → World → Prop} {F : Fam} (hF : F = Fam.real) {nn : Nat} (hn : cx.nt = nn) {all r : List Oper} {k : List KI} {S : St} {o : Oper} {x lo : Operand} {t T n kk : Nat} {cells : List AV} {cs : List Dat} (i : Nat)
    (ho : o.op = .slice t x (some lo) none none) (hg : guardB all S o = some true) (hd : dstB nn o = true) (hx : evl S x = .ptr n 0 0 kk) (hlo : evl S lo = .d (.s (.int .i64 (i : Int))))
    (hb : Ua.look n S.h = some (.cs T cells)) (hc : unDs cells = some cs) (hi : i < cs.length) (hm : cs.length ≤ maxLen)
    (hrun : ∀ (b : Nat) (w : World), (Instr.sliceAt t (.pointer (some ⟨b, 0, none⟩)) (some (.int .i64 (i : Int))) none none).run Tryd.prog w = .ok (.slice (some ⟨b, i, none⟩) (cs.length - i) (cs.length - i)) w)
    (h0 : cs.all isSc = true)
    (next : AKp Tryd.prog cx Q (runC (Ar.of F) tab nn 100000 (.ops all r :: k) ((⟨S.t, del n S.h, S.fr⟩ : St).put o.dst (.d (.view 1 (cs.drop i)))))) : AKp Tryd.prog cx Q (.ops all (o :: r) :: k, S) := by
  have h1 := isSc_cells h0
  refine AKp.op (S' := ⟨S.t, del n S.h, S.fr⟩) hF tabOK hn hg hd (fun ι a w HR => ?_) next
  have e1 := HR.evl x
  have e2 := HR.evl lo
  rw [hx] at e1
  rw [hlo] at e2
  have e3 : a.eval lo = .int .i64 (i : Int) := rep_s e2
  have e4 := HR.hr.box hb hc e1
  generalize hv : a.eval x = v at e1 e4
  cases e1 with
  | ptr _ _ _ _ b c l hι =>
    have e0 : 0 * kk + 0 = 0 := by simp
    rw [e0] at hv e4
    rw [List.drop_zero] at e4
    cases e4 with
    | vref _ _ _ f hr h =>
      refine ⟨.slice (some ⟨b, i, none⟩) (cs.length - i) (cs.length - i), w, ι, ?_, HR.forget n, ?_⟩
      · simp only [execOp, ho, hv, e3, Option.map]
        have := hrun b w
        simp only [Sem.run_bind, this, Result.andThen_ok, Sem.run_pure]
      · have hl : (cs.drop i).length = cs.length - i := by simp
        rw [← hl]
        refine .d _ _ (.view 1 (cs.drop i) ⟨b, i, none⟩ _ (fun j _ => f (i + j)) (Nat.le_refl _) (by rw [hl]; omega) (fun _ => rfl) (fun j e he => ?_) (fun j e q c he hq => ?_) (fun j e q c he hq => ?_))
        · rw [List.getElem?_drop] at he
          rw [h1 e (List.mem_of_getElem? he)]; rfl
        · rw [List.getElem?_drop] at he
          rw [h1 e (List.mem_of_getElem? he)] at hq
          have : q = 0 ∧ e = c := by
            match q, hq with
            | 0, hq => exact ⟨rfl, Option.some.inj hq⟩
            | q + 1, hq => simp at hq
          obtain ⟨rfl, rfl⟩ := this
          have := hr (i + j) e he
          simpa using this
        · rw [List.getElem?_drop] at he
          rw [h1 e (List.mem_of_getElem? he)] at hq
          have : q = 0 ∧ e = c := by
            match q, hq with
            | 0, hq => exact ⟨rfl, Option.some.inj hq⟩
            | q + 1, hq => simp at hq
          obtain ⟨rfl, rfl⟩ := this
          exact h (i + j) e he

theorem Repeat_spec (s : List UInt8) (c : Nat) (hc : c ≤ 9223372036854775807) (hlen : s.length * c ≤ 140737488355328) : ESpec Tryd.prog 54 [.d (.s (.str s)), .d (.s (.int .i64 c))] (fun x => x = .d (.s (.str (Lib.repeatL s c)))) := by
  have hm : maxLen = 9223372036854775807 := by decide
  refine ESpec.grown (enters_of Tryd.func54 (by kernel_rfl) rfl) (by show (Lib.repeatL s c).length ≤ maxLen; rw [Lib.repeatL_length, Nat.mul_comm]; omega) fun R ι vs w hR hG hl hr => ?_
  obtain ⟨v0, v1, rfl⟩ : ∃ v0 v1, vs = [v0, v1] := by
    match vs, hl with
    | [v0, v1], _ => exact ⟨v0, v1, rfl⟩
  obtain rfl := rep_s (hr 0 _ _ rfl rfl)
  obtain rfl := rep_s (hr 1 _ _ rfl rfl)
  refine (Tryd.strings_Repeat ⟨s.toArray⟩ c w hc (by rw [str_size]; exact hlen)).mono ?_
  rintro e w' ⟨rfl, hb⟩
  exact ⟨by simp [Sc.val], hb⟩

end Go.Proofs.YtlcgjeafmbbipaaDoor

/- The fixed answers; digits. -/
namespace Go.Proofs.YtlcgjeafmbbipaaDoor
open Go Go.Proofs Go.Ua Go.Extern
set_option linter.unusedVariables false
set_option linter.unusedSimpArgs false

theorem Itoa_spec (n : Int) : ESpec Tryd.prog 52 [.d (.s (.int .i64 n))] (fun x => x = .d (.s (.str (Lib.itoa n)))) := by
  have base : (Sc.int .i64 n).ok → ESpec Tryd.prog 52 [.d (.s (.int .i64 n))] (fun x => x = .d (.s (.str (Lib.itoa n)))) := by
    intro hok
    have h0 : -9223372036854775808 ≤ n := hok.1
    have h1 : n ≤ 9223372036854775807 := hok.2
    refine ESpec.grown (enters_of Tryd.func52 (by kernel_rfl) rfl) (Nat.le_trans (Lib.itoa_length_le n h0 h1) (by decide)) fun R ι vs w hR hG hl hr => ?_
    obtain ⟨v, rfl, hv⟩ : ∃ v, vs = [v] ∧ RepV R ι (.d (.s (.int .i64 n))) v := by
      match vs, hl with
      | [v], _ => exact ⟨v, rfl, hr 0 _ _ rfl rfl⟩
    obtain rfl := rep_s hv
    have htab : Lib.TabIs Tryd.prog w "internal/strconv.uint64pow10" .u64 Lib.pow10Tab := by
      obtain ⟨cs, t, fz, rfl, hb⟩ := hG 3 _ G_pow10
      exact var_of_block (by kernel_rfl) ⟨t, fz, hb⟩
    refine (Tryd.strconv_Itoa n h0 h1 w htab).mono ?_
    rintro e w' ⟨rfl, k, os, rfl⟩
    exact ⟨rfl, Lib.below_grow _ _ (Nat.le_refl _) _ _⟩
  refine ⟨enters_of Tryd.func52 (by kernel_rfl) rfl, fun X L w ι vs h1 hg h2 h3 => (base ?_).2 X L w ι vs h1 hg h2 h3⟩
  match vs, h2 with
  | [v], _ => exact rep_ok (h3 0 _ _ rfl rfl)

theorem max_nat (n : Nat) : Fam.real .max (n : Int) 0 = n := by
  show (if (n : Int) < 0 then (0 : Int) else n) = n
  omega

theorem Digits_spec (n : Nat) : ESpec Tryd.prog 37 [.d (.s (.int .i64 n))] (fun x => x = .d (.s (.str (Lib.decDigits n)))) := by
  have si := Itoa_spec n
  rw [itoa_nat] at si
  obtain ⟨D, hD⟩ : ∃ z, z = Lib.decDigits n := ⟨_, rfl⟩
  obtain ⟨nv, hnv⟩ : ∃ z, z = (n : Int) := ⟨_, rfl⟩
  rw [← hD] at si ⊢
  rw [← hnv] at si ⊢
  refine ESpec.enter Tryd.func37 (by kernel_rfl) rfl (Nat.le_of_ble_eq_true rfl) fun _ cx hnt hfr => ?_
  obtain ⟨F, hF⟩ := real_ex
  refine AK.run hF tabOK hnt ?_
  conv => arg 4; cbv
  rw [show F .max nv 0 = nv by rw [hF, hnv]; exact max_nat n]
  refine AKp.call hF tabOK hnt si rfl rfl rfl rfl rfl rfl rfl (by repeat' first | exact .refl _ | constructor) ?_
  rintro _ rfl
  conv => arg 4; cbv
  exact AKp.doneE tabOK hfr (by rfl) (by rfl)
end Go.Proofs.YtlcgjeafmbbipaaDoor

/- Names are words, words are lists: plain laws. -/
namespace Go.Proofs.YtlcgjeafmbbipaaDoor
open Go Go.Proofs Go.Ua Go.Extern
set_option linter.unusedVariables false
set_option linter.unusedSimpArgs false

theorem cutF_none {c : UInt8} : ∀ {s : List UInt8}, c ∉ s → cutF c s = [s]
  | [], _ => rfl
  | b :: r, h => by
    have h1 : b ≠ c := fun e => h (by rw [e]; simp)
    have h2 := cutF_none (s := r) (fun hm => h (List.mem_cons_of_mem _ hm))
    unfold cutF
    rw [if_neg h1, h2]

theorem mem_cut {c d : UInt8} (hd : d ≠ c) : ∀ {s : List UInt8}, d ∈ s → ∃ p, p ∈ cutF c s ∧ d ∈ p
  | b :: r, h => by
    unfold cutF
    by_cases e : b = c
    · rw [if_pos e]
      rcases List.mem_cons.1 h with h | h
      · exact absurd (h.trans e) hd
      · obtain ⟨p, hp, hm⟩ := mem_cut hd h
        exact ⟨p, List.mem_cons_of_mem _ hp, hm⟩
    · rw [if_neg e]
      cases hr : cutF c r with
      | nil => exact absurd hr (cutF_ne c r)
      | cons q qs =>
        rcases List.mem_cons.1 h with h | h
        · exact ⟨b :: q, by simp, by rw [h]; simp⟩
        · obtain ⟨p, hp, hm⟩ := mem_cut hd h
          rw [hr] at hp
          rcases List.mem_cons.1 hp with rfl | hp
          · exact ⟨b :: p, by simp, List.mem_cons_of_mem _ hm⟩
          · exact ⟨p, List.mem_cons_of_mem _ hp, hm⟩

theorem word_parts {w : List UInt8} (h : wordF w = true) : w ≠ [] ∧ w.length ≤ 64 ∧ w ≠ [45] ∧ w.all wordB = true := by
  unfold wordF at h
  simp only [Bool.and_eq_true, Bool.not_eq_true', decide_eq_true_eq, beq_eq_false_iff_ne] at h
  exact ⟨h.1.1.1, h.1.1.2, h.1.2, h.2⟩
theorem wordF_of {w : List UInt8} (h1 : w ≠ []) (h2 : w.length ≤ 64) (h3 : w ≠ [45]) (h4 : w.all wordB = true) : wordF w = true := by
  unfold wordF
  simp only [Bool.and_eq_true, Bool.not_eq_true', decide_eq_true_eq, beq_eq_false_iff_ne]
  exact ⟨⟨⟨h1, h2⟩, h3⟩, h4⟩

theorem word_of_name {w : List UInt8} (h : nameF w = true) : wordF w = true := by
  cases w with
  | nil => cases h
  | cons c r =>
    simp only [nameF, Bool.and_eq_true, decide_eq_true_eq] at h
    obtain ⟨⟨h1, h2⟩, h3⟩ := h
    refine wordF_of (by simp) (by omega) ?_ ?_
    · intro e
      cases e
      revert h2
      decide
    · rw [List.all_eq_true] at h3 ⊢
      intro x hx
      have := h3 x hx
      unfold nameB at this
      unfold wordB
      rcases Bool.or_eq_true _ _ ▸ this with h | h
      · rw [h]; rfl
      · have e : x = 45 := UInt8.toNat_inj.1 (by have := eq_of_beq h; simp; omega)
        rw [e]; decide

theorem wordB_no {c : UInt8} (h : c = 44 ∨ c = 32 ∨ c = 10) : wordB c = false := by
  rcases h with rfl | rfl | rfl <;> decide
theorem wordF_no {w : List UInt8} {c : UInt8} (hc : c ∈ w) (h : c = 44 ∨ c = 32 ∨ c = 10) : wordF w = false := by
  cases hw : wordF w
  · rfl
  · have := List.all_eq_true.1 (word_parts hw).2.2.2 c hc
    rw [wordB_no h] at this
    cases this

theorem list_of_word {w : List UInt8} (h : wordF w = true) : listF w = some [w] := by
  have hp := word_parts h
  have hc : (44 : UInt8) ∉ w := fun hm => by have := wordF_no hm (.inl rfl); rw [h] at this; cases this
  unfold listF
  rw [if_neg hp.2.2.1, if_neg (by omega), cutF_none hc]
  have : goodF [w] = true := by
    unfold goodF
    rw [Bool.or_eq_true]
    exact .inr (by simp [h])
  rw [if_pos this]

theorem list_no {w : List UInt8} {c : UInt8} (hc : c ∈ w) (h : c = 32 ∨ c = 10) : listF w = none := by
  have hne : c ≠ 44 := by rcases h with rfl | rfl <;> decide
  unfold listF
  have h1 : w ≠ [45] := by
    rintro rfl
    rcases h with rfl | rfl <;> simp at hc
  rw [if_neg h1]
  split
  · rfl
  · rw [if_neg]
    intro hg
    obtain ⟨p, hp, hm⟩ := mem_cut hne hc
    unfold goodF at hg
    rcases (Bool.or_eq_true _ _).mp hg with h2 | h2
    · have := eq_of_beq h2
      rw [this] at hp
      obtain rfl := List.mem_singleton.1 hp
      rcases h with rfl | rfl <;> simp at hm
    · simp only [Bool.and_eq_true] at h2
      have h3 := List.all_eq_true.1 h2.1.1 p hp
      rw [wordF_no hm (.inr h)] at h3
      cases h3
end Go.Proofs.YtlcgjeafmbbipaaDoor

/- Lists, joined. -/
namespace Go.Proofs.YtlcgjeafmbbipaaDoor
open Go Go.Proofs Go.Ua Go.Extern
set_option linter.unusedVariables false
set_option linter.unusedSimpArgs false

theorem StrJoin_spec (zs : List (List UInt8)) (sep : List UInt8) (hN : zs.length ≤ 140737488355328) (hlen : (Lib.join zs sep).length ≤ 140737488355328) :
    ESpec Tryd.prog 39 [.d (.view 1 (strDs zs)), .d (.s (.str sep))] (fun x => x = .d (.s (.str (Lib.join zs sep)))) := by
  refine ESpec.grown (enters_of Tryd.func39 (by kernel_rfl) rfl) (Nat.le_trans hlen (by decide)) fun R ι vs w hR hG hl hr => ?_
  obtain ⟨v0, v1, rfl⟩ : ∃ v0 v1, vs = [v0, v1] := by
    match vs, hl with
    | [v0, v1], _ => exact ⟨v0, v1, rfl⟩
  obtain rfl := rep_s (hr 1 _ _ rfl rfl)
  have h0 := rep_d (hr 0 _ _ rfl rfl)
  rcases view_strs h0 with ⟨rfl, a, cap, rfl⟩ | ⟨b, off, cap, rfl, hcap, hmx, hcell⟩
  · refine (Tryd.strings_Join_none a cap ⟨sep.toArray⟩ w).mono ?_
    rintro e w' ⟨rfl, rfl⟩
    exact ⟨by simp [Lib.join_nil, Sc.val], RowKit.Below.refl _ _⟩
  · cases hz : zs with
    | nil =>
      subst hz
      refine (Tryd.strings_Join_none (some ⟨b, off, none⟩) cap ⟨sep.toArray⟩ w).mono ?_
      rintro e w' ⟨rfl, rfl⟩
      exact ⟨by simp [Lib.join_nil, Sc.val], RowKit.Below.refl _ _⟩
    | cons z r =>
      rw [← hz]
      obtain ⟨L, hL⟩ : ∃ L : List ByteArray, L = zs.map fun s => ⟨s.toArray⟩ := ⟨_, rfl⟩
      have hLl : L.length = zs.length := by rw [hL]; simp
      have hLd : L.map (·.data.toList) = zs := by rw [hL, List.map_map]; simp [Function.comp_def]
      have hb : b < w.heap.size := block_lt_of_cell (hR _ _ _ (hcell 0 z (by rw [hz]; rfl)))
      rw [← hLl]
      refine (Tryd.strings_Join b off cap L ⟨sep.toArray⟩ w (fun j x hx => ?_) hb (by omega) (by omega) (by rw [hLd]; simpa using hlen)).mono ?_
      · rw [hL, List.getElem?_map] at hx
        obtain ⟨s, hs, rfl⟩ := Option.map_eq_some_iff.1 hx
        exact hR _ _ _ (hcell j s hs)
      · rintro e w' ⟨rfl, hbw⟩
        refine ⟨?_, hbw⟩
        rw [hLd]
        simp [Sc.val]

theorem join_le : ∀ (l : List (List UInt8)), (∀ p, p ∈ l → p.length ≤ 64) → (Lib.join l [44]).length ≤ 65 * l.length
  | [], _ => by simp [Lib.join_nil]
  | x :: r, h => by
    rw [Lib.join_cons]
    have ht : ∀ (r : List (List UInt8)), (∀ p, p ∈ r → p.length ≤ 64) → (Lib.joinTail [44] r).length ≤ 65 * r.length := by
      intro r
      induction r with
      | nil => intro _; simp [Lib.joinTail]
      | cons y r ih =>
        intro h
        have h1 := ih fun p hp => h p (List.mem_cons_of_mem _ hp)
        have h2 := h y (by simp)
        simp only [Lib.joinTail, List.map_cons, List.flatten_cons, List.length_append, List.length_cons, List.length_nil] at h1 ⊢
        omega
    have h1 := ht r fun p hp => h p (List.mem_cons_of_mem _ hp)
    have h2 := h x (by simp)
    simp only [List.length_append, List.length_cons]
    omega
theorem good_le {l : List (List UInt8)} (h : goodF l = true) : l.length ≤ 8 ∧ ∀ p, p ∈ l → p.length ≤ 64 := by
  unfold goodF at h
  rcases (Bool.or_eq_true _ _).mp h with h | h
  · have := eq_of_beq h
    subst this
    exact ⟨by decide, fun p hp => by obtain rfl := List.mem_singleton.1 hp; decide⟩
  · simp only [Bool.and_eq_true, decide_eq_true_eq] at h
    refine ⟨h.2, fun p hp => ?_⟩
    have := List.all_eq_true.1 h.1.1 p hp
    unfold wordF at this
    simp only [Bool.and_eq_true, decide_eq_true_eq] at this
    exact this.1.1.2

def joinF (l : List (List UInt8)) : List UInt8 := if goodF l = true then (if l = [] then [45] else Lib.join l [44]) else []

end Go.Proofs.YtlcgjeafmbbipaaDoor

/- Lists are read as they were joined, joined as they were read: plain laws. -/
namespace Go.Proofs.YtlcgjeafmbbipaaDoor
open Go Go.Proofs Go.Ua Go.Extern
set_option linter.unusedVariables false
set_option linter.unusedSimpArgs false

theorem join_cons2 (c : UInt8) (p q : List UInt8) (r : List (List UInt8)) : Lib.join (p :: q :: r) [c] = p ++ c :: Lib.join (q :: r) [c] := by
  rw [Lib.join_cons, Lib.join_cons]
  simp [Lib.joinTail]

theorem join_cut (c : UInt8) : ∀ w : List UInt8, Lib.join (cutF c w) [c] = w
  | [] => by simp [cutF, Lib.join_one]
  | b :: r => by
    have ih := join_cut c r
    unfold cutF
    cases hr : cutF c r with
    | nil => exact absurd hr (cutF_ne c r)
    | cons q qs =>
      rw [hr] at ih
      by_cases e : b = c
      · rw [if_pos e, join_cons2, ih, e]; rfl
      · rw [if_neg e]
        cases qs with
        | nil => rw [Lib.join_one] at ih ⊢; simp [ih]
        | cons q2 qs => rw [join_cons2] at ih ⊢; simp [← ih]

theorem cut_append {c : UInt8} : ∀ {p : List UInt8} (r : List UInt8), c ∉ p → cutF c (p ++ c :: r) = p :: cutF c r
  | [], r, _ => by simp [cutF]
  | b :: p, r, h => by
    have h1 : b ≠ c := fun e => h (by rw [e]; simp)
    have ih := cut_append (p := p) r (fun hm => h (List.mem_cons_of_mem _ hm))
    rw [List.cons_append, show cutF c (b :: (p ++ c :: r)) = (if b = c then [] :: cutF c (p ++ c :: r) else match cutF c (p ++ c :: r) with
      | q :: ps => (b :: q) :: ps
      | [] => [[b]]) from rfl, if_neg h1, ih]

theorem cut_join {c : UInt8} : ∀ {l : List (List UInt8)}, l ≠ [] → (∀ p, p ∈ l → c ∉ p) → cutF c (Lib.join l [c]) = l
  | [], h, _ => absurd rfl h
  | [p], _, h => by rw [Lib.join_one]; exact cutF_none (h p (by simp))
  | p :: q :: r, _, h => by
    rw [join_cons2, cut_append _ (h p (by simp)), cut_join (by simp) fun x hx => h x (List.mem_cons_of_mem _ hx)]

theorem good_no {l : List (List UInt8)} (h : goodF l = true) : ∀ p, p ∈ l → (44 : UInt8) ∉ p := by
  intro p hp hm
  unfold goodF at h
  rcases (Bool.or_eq_true _ _).mp h with h | h
  · have := eq_of_beq h
    subst this
    obtain rfl := List.mem_singleton.1 hp
    simp at hm
  · simp only [Bool.and_eq_true] at h
    have := List.all_eq_true.1 h.1.1 p hp
    rw [wordF_no hm (.inl rfl)] at this
    cases this

/-- Read as it was joined. -/
theorem list_join {l : List (List UInt8)} (h : joinF l ≠ []) : listF (joinF l) = some l := by
  unfold joinF at h ⊢
  by_cases hg : goodF l = true
  · rw [if_pos hg] at h ⊢
    by_cases hl : l = []
    · subst hl; rw [if_pos rfl]; rfl
    · rw [if_neg hl]
      have hc := cut_join hl (good_no hg)
      obtain ⟨g1, g2⟩ := good_le hg
      have g3 := join_le l g2
      unfold listF
      rw [if_neg, if_neg (by omega), hc, if_pos hg]
      intro e
      rw [e] at hc
      have : l = [[45]] := by rw [← hc]; decide
      subst this
      revert hg
      decide
  · rw [if_neg hg] at h; exact absurd rfl h

/-- Joined as it was read. -/
theorem join_list {w : List UInt8} {m : List (List UInt8)} (h : listF w = some m) : joinF m = w := by
  unfold listF at h
  by_cases h1 : w = [45]
  · rw [if_pos h1] at h
    obtain rfl := Option.some.inj h
    rw [h1]; decide
  · rw [if_neg h1] at h
    split at h
    · cases h
    · split at h
      · rename_i hg
        obtain rfl := Option.some.inj h
        unfold joinF
        rw [if_pos hg, if_neg (cutF_ne 44 w), join_cut]
      · cases h
end Go.Proofs.YtlcgjeafmbbipaaDoor

/- The reference's cut. -/
namespace Go.Proofs.YtlcgjeafmbbipaaDoor
open Go Go.Proofs Go.Ua Go.Extern
set_option linter.unusedVariables false
set_option linter.unusedSimpArgs false

theorem l_cutS {F : Fam} (hF : F = Fam.real) {s : List UInt8} {i j : Nat} {iv jv : Int} (hi : iv = i) (hj : jv = j) (h1 : i ≤ j) (h2 : j ≤ s.length) : F .cutS s iv jv = some ((s.take j).drop i) := by
  subst hF; subst hi; subst hj
  show cutI s (i : Int) (j : Int) = _
  unfold cutI
  rw [if_pos ⟨by omega, by omega, by omega⟩]
  simp

theorem Cut_spec (s : List UInt8) (c : UInt8) (hs : s.length < 4294967296) : ESpec Tryd.prog 17 [.d (.s (.str s)), .d (.s (.int .u8 c.toNat))] (fun x => x = .d (.view 1 (strDs (cutF c s)))) := by
  obtain ⟨z, hz⟩ : ∃ z, z = strDs (cutF c s) := ⟨_, rfl⟩
  obtain ⟨cv, hcv⟩ : ∃ z : Int, z = c.toNat := ⟨_, rfl⟩
  rw [← hz, ← hcv]
  refine ESpec.enter Tryd.func17 (by kernel_rfl) rfl (Nat.le_of_ble_eq_true rfl) fun hok cx hnt hfr => ?_
  obtain ⟨F, hF⟩ := real_ex
  refine AK.run hF tabOK hnt ?_
  conv => arg 4; cbv
  refine AKp.asRow 5 9 1 (by decide) rfl ?_
  conv => arg 4; arg 2; cbv
  refine AKp.enterLoop 5 ?_
  conv => arg 7; cbv
  refine AKl.inv hF tabOK hnt hfr (fun n vs hs' => ∃ (i j : Nat) (iv jv : Int) (out : List (List UInt8)) (es : List Dat), i + n = s.length ∧ iv = i ∧ jv = j ∧ j ≤ i ∧ out.length ≤ j ∧ cutF c s = out ++ cutF c (s.drop j) ∧ c ∉ (s.take i).drop j ∧ es = strDs out ∧
      vs = [(7, .d (.s (.int .i64 iv))), (6, .d (.s (.int .i64 jv))), (5, .row 0 1)] ∧ hs' = [(0, .ds 9 1 es)]) s.length
    ⟨0, 0, _, _, [], [], by omega, rfl, rfl, by omega, by simp, by simp, by simp, rfl, rfl, rfl⟩ (by repeat (first | exact True.intro | refine ⟨⟨rfl, rfl⟩, ?_⟩)) (by repeat (first | exact True.intro | refine ⟨⟨rfl, rfl, rfl⟩, ?_⟩)) ?_
  rintro J n vs hs' hJ ⟨i, j, iv, jv, out, es, hi, hiv, hjv, hji, hol, hcut, hno, hes, rfl, rfl⟩
  have hesl : es.length = out.length := by rw [hes]; simp [strDs]
  conv => arg 4; cbv
  cases hb : F .ltI iv (F .lenS s)
  case' false =>
    have hlt := ltI0 hF hb
    rw [l_lenS hF] at hlt
    have hil : i = s.length := by omega
    have hcs := l_cutS hF (s := s) (iv := jv) (jv := F .lenS s) (i := j) (j := s.length) hjv (by rw [l_lenS hF]) (by omega) (by omega)
    rw [List.take_length] at hcs
    obtain ⟨p, hp⟩ : ∃ p, p = s.drop j := ⟨_, rfl⟩
    rw [← hp] at hcs
    rw [hil, List.take_length, ← hp] at hno
    rw [← hp, cutF_none hno] at hcut
    have hap : F .appD es [.s (.str p)] = es ++ [.s (.str p)] := by rw [hF]; rfl
    have hft : F .fits 16 (F .appD es [.s (.str p)]) = true := by rw [hap, hF]; exact decide_eq_true (by simp; omega)
    have hzz : F .appD es [.s (.str p)] = z := by rw [hap, hz, hcut, hes]; simp [strDs]
    conv => arg 4; cbv
    rw [hcs]
    conv => arg 4; cbv
    rw [hft]
    conv => arg 4; cbv
    rw [hzz]
    refine AKp.freeze 2 rfl ?_
    conv => arg 4; arg 2; cbv
    exact AKp.doneE tabOK hfr (by rfl) (by rfl)
  case' true =>
    have hlt := ltI1 hF hb
    rw [l_lenS hF] at hlt
    obtain ⟨x, hx⟩ : ∃ c, s[i]? = some c := ⟨_, List.getElem?_eq_getElem (by omega)⟩
    have hg := l_getS hF hx hiv
    obtain ⟨xv, hxv⟩ : ∃ z : Int, z = x.toNat := ⟨_, rfl⟩
    rw [← hxv] at hg
    conv => arg 4; cbv
    rw [hg]
    conv => arg 4; cbv
    cases h5 : F .eqI xv cv
    case' false =>
      have h5' := eqI0 hF h5
      conv => arg 4; cbv
      refine AKp.again _ hfr (by repeat (first | exact True.intro | refine ⟨⟨rfl, rfl⟩, ?_⟩)) (by repeat (first | exact True.intro | refine ⟨⟨rfl, rfl, rfl⟩, ?_⟩)) (hJ (n - 1) _ _ (by omega) ⟨i + 1, j, _, jv, out, es, by omega, inc_i hF hiv (by omega), hjv, by omega, hol, hcut, ?_, hes, rfl, rfl⟩)
      rw [List.take_add_one, hx, List.drop_append]
      simp only [Option.toList_some, List.mem_append, not_or]
      refine ⟨hno, fun hm => h5' ?_⟩
      have := List.mem_of_mem_drop hm
      obtain rfl := List.mem_singleton.1 this
      rw [hxv, hcv]
    case' true =>
      have h5' := eqI1 hF h5
      have hcs := l_cutS hF (s := s) hjv hiv hji (by omega)
      conv => arg 4; cbv
      obtain ⟨p, hp⟩ : ∃ p, p = (s.take i).drop j := ⟨_, rfl⟩
      rw [← hp] at hcs hno
      have hxc : x = c := UInt8.toNat_inj.1 (by rw [hxv, hcv] at h5'; omega)
      have hsd : s.drop j = p ++ c :: s.drop (i + 1) := by
        have h6 : s.drop i = c :: s.drop (i + 1) := by
          rw [List.drop_eq_getElem_cons (by omega)]
          have : s[i] = c := by rw [List.getElem?_eq_getElem (by omega)] at hx; rw [← hxc]; exact Option.some.inj hx
          rw [this]
        have h7 : s.drop j = (s.take i ++ s.drop i).drop j := by rw [List.take_append_drop]
        rw [h7, List.drop_append_of_le_length (by simp; omega), h6, ← hp]
      have hap : F .appD es [.s (.str p)] = es ++ [.s (.str p)] := by rw [hF]; rfl
      have hft : F .fits 16 (F .appD es [.s (.str p)]) = true := by rw [hap, hF]; exact decide_eq_true (by simp; omega)
      rw [hcs]
      conv => arg 4; cbv
      rw [hft]
      conv => arg 4; cbv
      rw [hap]
      refine AKp.againR [(0, 2)] _ hfr (by repeat (first | exact True.intro | refine ⟨⟨rfl, rfl⟩, ?_⟩)) (by repeat (first | exact True.intro | refine ⟨⟨Nat.le_of_ble_eq_true rfl, rfl, rfl⟩, ?_⟩)) rfl (hJ (n - 1) _ _ (by omega) ⟨i + 1, i + 1, _, _, out ++ [p], es ++ [.s (.str p)], by omega, inc_i hF hiv (by omega), inc_i hF hiv (by omega), Nat.le_refl _, by simp; omega, ?_, by simp, by rw [hes]; simp [strDs], rfl, rfl⟩)
      rw [hcut, hsd, cut_append _ hno]
      simp
end Go.Proofs.YtlcgjeafmbbipaaDoor

/- The reference's lines. -/
namespace Go.Proofs.YtlcgjeafmbbipaaDoor
open Go Go.Proofs Go.Ua Go.Extern
set_option linter.unusedVariables false
set_option linter.unusedSimpArgs false

theorem RefLines_spec (s : List UInt8) (hs : s.length < 4294967281) : ESpec Tryd.prog 11 [.d (.s (.str s))] (fun x => x = .d (.view 1 (strDs (linesF s)))) := by
  have sp := Cut_spec s 10 (by omega)
  have hl1 := cutF_len 10 s
  have hcl := List.count_le_length (a := (10 : UInt8)) (l := s)
  rw [show (((10 : UInt8).toNat : Nat) : Int) = 10 from rfl] at sp
  obtain ⟨es, hes⟩ : ∃ z, z = strDs (cutF 10 s) := ⟨_, rfl⟩
  rw [← hes] at sp
  obtain ⟨z, hz⟩ : ∃ z, z = strDs (linesF s) := ⟨_, rfl⟩
  rw [← hz]
  refine ESpec.enter Tryd.func11 (by kernel_rfl) rfl (Nat.le_of_ble_eq_true rfl) fun hok cx hnt hfr => ?_
  obtain ⟨F, hF⟩ := real_ex
  refine AK.run hF tabOK hnt ?_
  conv => arg 4; cbv
  have hne : es ≠ [] := by rw [hes]; simpa [strDs] using cutF_ne 10 s
  have hel : es.length = (cutF 10 s).length := by rw [hes]; simp [strDs]
  have h1 : 1 ≤ es.length := by
    cases es with
    | nil => exact absurd rfl hne
    | cons _ _ => simp
  obtain ⟨iv, hiv⟩ : ∃ z, z = F .wrap .i64 (F .sub (F .lenD es) 1) := ⟨_, rfl⟩
  have hiv' : iv = ((es.length - 1 : Nat) : Int) := by
    rw [hiv, hF]
    show IntKind.i64.wrap ((es.length : Int) - 1) = _
    rw [w_i64 (by omega) (by omega)]
    omega
  obtain ⟨p, hp⟩ : ∃ p, (cutF 10 s)[es.length - 1]? = some p := ⟨_, List.getElem?_eq_getElem (by omega)⟩
  have hlast : (cutF 10 s).getLastD [] = p := by
    rw [List.getLastD_eq_getLast?, List.getLast?_eq_getElem?, ← hel, hp]; rfl
  have hg : F .getD es iv = some (.s (.str p)) := l_getD hF (i := es.length - 1) (by rw [hes]; rw [hes] at hp; exact strDs_get hp) hiv'
  refine AKp.call hF tabOK hnt sp rfl rfl rfl rfl rfl rfl rfl (by repeat' first | exact .refl _ | constructor) ?_
  rintro _ rfl
  conv => arg 4; cbv
  rw [← hiv, hg]
  conv => arg 4; cbv
  cases hb : F .eqS p []
  case' true =>
    have hb' := eqS1 hF hb
    have hzz : z = es.take (es.length - 1) := by
      rw [hz, linesF, if_pos (by rw [hlast, hb'])]
      rw [List.dropLast_eq_take, hes]
      simp [strDs]
    conv => arg 4; cbv
    rw [← hiv, l_cutD0 hF hiv' (by omega), ← hzz]
    conv => arg 4; cbv
    exact AKp.doneE tabOK hfr (by rfl) (by rfl)
  case' false =>
    have hb' := eqS0 hF hb
    conv => arg 4; cbv
    rw [show es = z by rw [hz, linesF, if_neg (by rw [hlast]; exact hb'), hes]]
    exact AKp.doneE tabOK hfr (by rfl) (by rfl)
end Go.Proofs.YtlcgjeafmbbipaaDoor

/- The reference's words. -/
namespace Go.Proofs.YtlcgjeafmbbipaaDoor
open Go Go.Proofs Go.Ua Go.Extern
set_option linter.unusedVariables false
set_option linter.unusedSimpArgs false

def wordsF (s : List UInt8) : List (List UInt8) := (cutF 32 s).filter fun p => !(p == [])

theorem RefWords_spec (s : List UInt8) (hs : s.length < 4294967296) : ESpec Tryd.prog 26 [.d (.s (.str s))] (fun x => x = .d (.view 1 (strDs (wordsF s)))) := by
  have sp := Cut_spec s 32 hs
  rw [show (((32 : UInt8).toNat : Nat) : Int) = 32 from rfl] at sp
  obtain ⟨l, hl⟩ : ∃ l, l = cutF 32 s := ⟨_, rfl⟩
  have hll : l.length ≤ 4294967296 := by
    rw [hl, cutF_len]
    have := List.count_le_length (a := (32 : UInt8)) (l := s)
    omega
  obtain ⟨ea, hea⟩ : ∃ z, z = strDs l := ⟨_, rfl⟩
  have hel : ea.length = l.length := by rw [hea]; simp [strDs]
  rw [← hl, ← hea] at sp
  obtain ⟨z, hz⟩ : ∃ z, z = strDs (wordsF s) := ⟨_, rfl⟩
  have hzl : z = strDs (l.filter fun p => !(p == [])) := by rw [hz, wordsF, hl]
  rw [← hz]
  refine ESpec.enter Tryd.func26 (by kernel_rfl) rfl (Nat.le_of_ble_eq_true rfl) fun hok cx hnt hfr => ?_
  obtain ⟨F, hF⟩ := real_ex
  refine AK.run hF tabOK hnt ?_
  conv => arg 4; cbv
  refine AKp.call hF tabOK hnt sp rfl rfl rfl rfl rfl rfl rfl (by repeat' first | exact .refl _ | constructor) ?_
  rintro _ rfl
  conv => arg 4; cbv
  refine AKp.asRow 4 9 1 (by decide) rfl ?_
  conv => arg 4; arg 2; cbv
  refine AKp.enterLoop 4 ?_
  conv => arg 7; cbv
  refine AKl.inv hF tabOK hnt hfr (fun n vs hs' => ∃ (i : Nat) (iv : Int) (out : List (List UInt8)) (es : List Dat), i + n = l.length ∧ iv = i ∧ out.length ≤ i ∧ out = (l.take i).filter (fun p => !(p == [])) ∧ es = strDs out ∧
      vs = [(5, .d (.s (.int .i64 iv))), (4, .row 0 1)] ∧ hs' = [(0, .ds 9 1 es)]) l.length
    ⟨0, _, [], [], by omega, rfl, by simp, by simp, rfl, rfl, rfl⟩ (by repeat (first | exact True.intro | refine ⟨⟨rfl, rfl⟩, ?_⟩)) (by repeat (first | exact True.intro | refine ⟨⟨rfl, rfl, rfl⟩, ?_⟩)) ?_
  rintro J n vs hs' hJ ⟨i, iv, out, es, hi, hiv, hol, hout, hes, rfl, rfl⟩
  have hesl : es.length = out.length := by rw [hes]; simp [strDs]
  conv => arg 4; cbv
  cases hb : F .ltI iv (F .lenD ea)
  case' false =>
    have hlt := ltI0 hF hb
    rw [l_lenD hF] at hlt
    rw [List.take_of_length_le (by omega)] at hout
    conv => arg 4; cbv
    rw [show es = z by rw [hes, hout, hzl]]
    refine AKp.freeze 0 rfl ?_
    conv => arg 4; arg 2; cbv
    exact AKp.doneE tabOK hfr (by rfl) (by rfl)
  case' true =>
    have hlt := ltI1 hF hb
    rw [l_lenD hF] at hlt
    obtain ⟨p, hp⟩ : ∃ c, l[i]? = some c := ⟨_, List.getElem?_eq_getElem (by omega)⟩
    have hg : F .getD ea iv = some (.s (.str p)) := l_getD hF (i := i) (by rw [hea]; exact strDs_get hp) hiv
    have htk : (l.take (i + 1)).filter (fun p => !(p == [])) = out ++ [p].filter (fun p => !(p == [])) := by rw [List.take_add_one, hp, List.filter_append, hout]; rfl
    conv => arg 4; cbv
    rw [hg]
    conv => arg 4; cbv
    cases h5 : F .eqS p []
    case' true =>
      have h5' := eqS1 hF h5
      rw [l_not1 hF]
      conv => arg 4; cbv
      exact AKp.again _ hfr (by repeat (first | exact True.intro | refine ⟨⟨rfl, rfl⟩, ?_⟩)) (by repeat (first | exact True.intro | refine ⟨⟨rfl, rfl, rfl⟩, ?_⟩)) (hJ (n - 1) _ _ (by omega) ⟨i + 1, _, out, es, by omega, inc_i hF hiv (by omega), by omega, by rw [htk, h5']; simp, hes, rfl, rfl⟩)
    case' false =>
      have h5' := eqS0 hF h5
      have hap : F .appD es [.s (.str p)] = es ++ [.s (.str p)] := by rw [hF]; rfl
      have hft : F .fits 16 (F .appD es [.s (.str p)]) = true := by rw [hap, hF]; exact decide_eq_true (by simp; omega)
      rw [l_not0 hF]
      conv => arg 4; cbv
      rw [hg]
      conv => arg 4; cbv
      rw [hft]
      conv => arg 4; cbv
      rw [hap]
      exact AKp.againR [(0, 2)] _ hfr (by repeat (first | exact True.intro | refine ⟨⟨rfl, rfl⟩, ?_⟩)) (by repeat (first | exact True.intro | refine ⟨⟨Nat.le_of_ble_eq_true rfl, rfl, rfl⟩, ?_⟩)) rfl (hJ (n - 1) _ _ (by omega) ⟨i + 1, _, out ++ [p], es ++ [.s (.str p)], by omega, inc_i hF hiv (by omega), by simp; omega, by rw [htk]; simp [h5'], by rw [hes]; simp [strDs], rfl, rfl⟩)
end Go.Proofs.YtlcgjeafmbbipaaDoor

/- words.Digits at any int. -/
namespace Go.Proofs.YtlcgjeafmbbipaaDoor
open Go Go.Proofs Go.Ua Go.Extern
set_option linter.unusedVariables false

theorem DigitsI_spec (n : Int) : ESpec Tryd.prog 37 [.d (.s (.int .i64 n))] (fun x => x = .d (.s (.str (Lib.decDigits n.toNat)))) := by
  have si := Itoa_spec (n.toNat : Int)
  rw [itoa_nat] at si
  obtain ⟨D, hD⟩ : ∃ z, z = Lib.decDigits n.toNat := ⟨_, rfl⟩
  obtain ⟨nv, hnv⟩ : ∃ z, z = (n.toNat : Int) := ⟨_, rfl⟩
  rw [← hD] at si ⊢
  rw [← hnv] at si
  refine ESpec.enter Tryd.func37 (by kernel_rfl) rfl (Nat.le_of_ble_eq_true rfl) fun _ cx hnt hfr => ?_
  obtain ⟨F, hF⟩ := real_ex
  refine AK.run hF tabOK hnt ?_
  conv => arg 4; cbv
  rw [show F .max n 0 = nv by
    rw [hF, hnv]
    show (if 0 > n then (0 : Int) else n) = _
    split <;> omega]
  refine AKp.call hF tabOK hnt si rfl rfl rfl rfl rfl rfl rfl (by repeat' first | exact .refl _ | constructor) ?_
  rintro _ rfl
  conv => arg 4; cbv
  exact AKp.doneE tabOK hfr (by rfl) (by rfl)
end Go.Proofs.YtlcgjeafmbbipaaDoor

/- Are two lists the same? -/
namespace Go.Proofs.YtlcgjeafmbbipaaDoor
open Go Go.Proofs Go.Ua Go.Extern
set_option linter.unusedVariables false
set_option linter.unusedSimpArgs false

end Go.Proofs.YtlcgjeafmbbipaaDoor

/- What is told of the functions walked so far, for trees of calls. -/
namespace Go.Proofs.YtlcgjeafmbbipaaDoor
open Go Go.Proofs Go.Ua Go.Extern
set_option linter.unusedVariables false
set_option linter.unusedSimpArgs false
theorem hmix : Tryd.prog.follows .mixedOrders = true := by kernel_rfl
def φSmall (u : Int → Bool) : List AV → Option (Bool × AV)
  | [.d (.s (.int .u8 n))] => some (true, .d (.s (.bool (u n))))
  | _ => none
theorem φSmall_ok : SpOK Tryd.prog 60 (φSmall (smallN)) := by
  intro xs b x h hb
  unfold φSmall at h
  split at h
  · simp only [Option.some.injEq, Prod.mk.injEq] at h
    obtain ⟨rfl, rfl⟩ := h
    exact small_spec _
  · cases h
def φDigit (u : Int → Bool) : List AV → Option (Bool × AV)
  | [.d (.s (.int .u8 n))] => some (true, .d (.s (.bool (u n))))
  | _ => none
theorem φDigit_ok : SpOK Tryd.prog 61 (φDigit (digitN)) := by
  intro xs b x h hb
  unfold φDigit at h
  split at h
  · simp only [Option.some.injEq, Prod.mk.injEq] at h
    obtain ⟨rfl, rfl⟩ := h
    exact digit_spec _
  · cases h
def φName (u : List UInt8 → Bool) : List AV → Option (Bool × AV)
  | [.d (.s (.str w))] => some (true, .d (.s (.bool (u w))))
  | _ => none
theorem φName_ok : SpOK Tryd.prog 34 (φName (nameF)) := by
  intro xs b x h hb
  unfold φName at h
  split at h
  · simp only [Option.some.injEq, Prod.mk.injEq] at h
    obtain ⟨rfl, rfl⟩ := h
    exact Name_spec _
  · cases h
theorem CutI_spec (s : List UInt8) (n : Int) (hs : s.length < 4294967296) : ESpec Tryd.prog 17 [.d (.s (.str s)), .d (.s (.int .u8 n))] (fun x => x = .d (.view 1 (strDs (cutF (UInt8.ofNat n.toNat) s)))) :=
  ESpec.ok (enters_of Tryd.func17 (by kernel_rfl) rfl) fun hok => by
    have := Cut_spec s (UInt8.ofNat n.toNat) hs
    rwa [u8_of hok.2.1] at this
def listV (w : List UInt8) : List Dat := strDs ((listF w).getD [])
def listB (w : List UInt8) : Bool := (listF w).isSome
def numV (w : List UInt8) (a b : Int) : Int := (numberF w a b).getD 0
def numB (w : List UInt8) (a b : Int) : Bool := (numberF w a b).isSome
theorem NumberT_spec (w : List UInt8) (a b : Int) : ESpec Tryd.prog 31 [.d (.s (.str w)), .d (.s (.int .i64 a)), .d (.s (.int .i64 b))] (fun x => x = .tup [.d (.s (.int .i64 (numV w a b))), .d (.s (.bool (numB w a b)))]) := by
  have := Number_spec w a b
  unfold numV numB
  cases h : numberF w a b <;> (rw [h] at this; exact this)
def le32 (w : List UInt8) : Bool := decide (w.length < 4294967281)
def φCut (p : List UInt8 → Bool) (u : List UInt8 → Int → List Dat) : List AV → Option (Bool × AV)
  | [.d (.s (.str w)), .d (.s (.int .u8 n))] => some (p w, .d (.view 1 (u w n)))
  | _ => none
theorem φCut_ok : SpOK Tryd.prog 17 (φCut (le32) (fun w n => strDs (cutF (UInt8.ofNat n.toNat) w))) := by
  intro xs b x h hb
  unfold φCut at h
  split at h
  · simp only [Option.some.injEq, Prod.mk.injEq] at h
    obtain ⟨rfl, rfl⟩ := h
    exact CutI_spec _ _ (Nat.lt_trans (of_decide_eq_true hb) (by decide))
  · cases h
def φNumber (u : List UInt8 → Int → Int → Int) (v : List UInt8 → Int → Int → Bool) : List AV → Option (Bool × AV)
  | [.d (.s (.str w)), .d (.s (.int .i64 a)), .d (.s (.int .i64 b))] => some (true, .tup [.d (.s (.int .i64 (u w a b))), .d (.s (.bool (v w a b)))])
  | _ => none
theorem φNumber_ok : SpOK Tryd.prog 31 (φNumber (numV) (numB)) := by
  intro xs b x h hb
  unfold φNumber at h
  split at h
  · simp only [Option.some.injEq, Prod.mk.injEq] at h
    obtain ⟨rfl, rfl⟩ := h
    exact NumberT_spec _ _ _
  · cases h
def φLines (p : List UInt8 → Bool) (u : List UInt8 → List Dat) : List AV → Option (Bool × AV)
  | [.d (.s (.str w))] => some (p w, .d (.view 1 (u w)))
  | _ => none
theorem φLines_ok : SpOK Tryd.prog 13 (φLines (le32) (fun w => strDs (linesF w))) := by
  intro xs b x h hb
  unfold φLines at h
  split at h
  · simp only [Option.some.injEq, Prod.mk.injEq] at h
    obtain ⟨rfl, rfl⟩ := h
    exact Lines_spec _ (of_decide_eq_true hb)
  · cases h
def φRefLines (p : List UInt8 → Bool) (u : List UInt8 → List Dat) : List AV → Option (Bool × AV)
  | [.d (.s (.str w))] => some (p w, .d (.view 1 (u w)))
  | _ => none
theorem φRefLines_ok : SpOK Tryd.prog 11 (φRefLines (le32) (fun w => strDs (linesF w))) := by
  intro xs b x h hb
  unfold φRefLines at h
  split at h
  · simp only [Option.some.injEq, Prod.mk.injEq] at h
    obtain ⟨rfl, rfl⟩ := h
    exact RefLines_spec _ (of_decide_eq_true hb)
  · cases h
def φRefWords (p : List UInt8 → Bool) (u : List UInt8 → List Dat) : List AV → Option (Bool × AV)
  | [.d (.s (.str w))] => some (p w, .d (.view 1 (u w)))
  | _ => none
theorem φRefWords_ok : SpOK Tryd.prog 26 (φRefWords (le32) (fun w => strDs (wordsF w))) := by
  intro xs b x h hb
  unfold φRefWords at h
  split at h
  · simp only [Option.some.injEq, Prod.mk.injEq] at h
    obtain ⟨rfl, rfl⟩ := h
    exact RefWords_spec _ (Nat.lt_trans (of_decide_eq_true hb) (by decide))
  · cases h
def φDigits (u : Int → List UInt8) : List AV → Option (Bool × AV)
  | [.d (.s (.int .i64 n))] => some (true, .d (.s (.str (u n))))
  | _ => none
theorem φDigits_ok : SpOK Tryd.prog 37 (φDigits (fun n => Lib.decDigits n.toNat)) := by
  intro xs b x h hb
  unfold φDigits at h
  split at h
  · simp only [Option.some.injEq, Prod.mk.injEq] at h
    obtain ⟨rfl, rfl⟩ := h
    exact DigitsI_spec _
  · cases h
end Go.Proofs.YtlcgjeafmbbipaaDoor

/- The reference's names and words. -/
namespace Go.Proofs.YtlcgjeafmbbipaaDoor
open Go Go.Proofs Go.Ua Go.Extern
set_option linter.unusedVariables false
set_option linter.unusedSimpArgs false
set_option maxRecDepth 10000

theorem RefName_spec (w : List UInt8) : ESpec Tryd.prog 45 [.d (.s (.str w))] (fun x => x = .d (.s (.bool (nameF w)))) := by
  obtain ⟨uSmall, huSmall⟩ : ∃ u : Int → Bool, u = smallN := ⟨_, rfl⟩
  obtain ⟨uDigit, huDigit⟩ : ∃ u : Int → Bool, u = digitN := ⟨_, rfl⟩
  have hG : TblOK Tryd.prog [(60, .p (φSmall uSmall)), (61, .p (φDigit uDigit))] := ⟨(by rw [huSmall]; exact φSmall_ok), (by rw [huDigit]; exact φDigit_ok), trivial⟩
  refine ESpec.enter Tryd.func45 (by kernel_rfl) rfl (Nat.le_of_ble_eq_true rfl) fun hok cx hnt hfr => ?_
  obtain ⟨F, hF⟩ := real_ex
  refine AK.runT hF tabOK hmix hnt hfr false _ hG ?_
  conv => arg 4; cbv
  have hwl : w.length ≤ maxLen := hok.1
  have hm : maxLen = 9223372036854775807 := by decide
  repeat' (first | with_reducible refine AKt.have ?_ | with_reducible refine AKt.tt ?_ | with_reducible refine AKt.ff ?_ | with_reducible refine AKt.yes (by assumption) ?_ | with_reducible refine AKt.no (by assumption) ?_ | with_reducible refine AKt.node (fun hb => ?_) (fun hb => ?_) | with_reducible refine AKt.need ?_ (fun hb => ?_) | with_reducible refine AKt.leaf ?_ | ((with_reducible show _ = true); assumption))
  refine AKp.enterLoop 4 ?_
  conv => arg 7; cbv
  refine AKl.invT hF tabOK hmix hnt hfr false _ hG (fun n vs hs => ∃ (i : Nat) (iv : Int), i + n = w.length ∧ iv = i ∧ (w.take i).all nameB = true ∧ (∀ c, w[0]? = some c → 0 < i → smallN c.toNat = true) ∧ vs = [(3, .d (.s (.int .i64 iv)))] ∧ hs = []) w.length ⟨0, _, by omega, rfl, by simp, by simp, rfl, rfl⟩ (by repeat (first | exact True.intro | refine ⟨⟨rfl, rfl⟩, ?_⟩)) (by repeat (first | exact True.intro | refine ⟨⟨rfl, rfl, rfl⟩, ?_⟩)) ?_
  rintro J n vs hs hJ ⟨i, iv, hi, hiv, hall, hfi, rfl, rfl⟩
  conv => arg 4; cbv
  refine AKt.node (fun hb => ?_) (fun hb => ?_)
  · have hlt : i < w.length := by simp only [hF, f_ltI, f_leI, f_eqI, f_eqS, f_eqB, f_not, f_andB, f_orB, f_lenS, f_lenD, f_hasS, f_atS, f_hasC, f_subS, f_hasCat, f_app, f_wrap, f_add, f_sub, f_mul, f_appD, f_fits, f_hasV, f_subV, decide_eq_true_eq, decide_eq_false_iff_not, beq_iff_eq, beq_eq_false_iff_ne, Bool.and_eq_true, Bool.and_eq_false_iff, Bool.not_eq_true, Bool.not_eq_false, Bool.not_eq_eq_eq_not, Bool.not_true, Bool.not_false] at hb; omega
    obtain ⟨c, hc⟩ : ∃ c, w[i]? = some c := ⟨_, List.getElem?_eq_getElem hlt⟩
    rw [t_atS hF hc hiv]
    have hs := t_hasS hF hlt hiv
    have hu : nameB c = (uSmall c.toNat || uDigit c.toNat || decide ((c.toNat : Int) = 45)) := by rw [huSmall, huDigit]; rfl
    have hno := all_false (p := nameB) hc
    have hyes := all_take_succ (p := nameB) hc hall
    rw [← huSmall] at hfi
    repeat' (first | with_reducible refine AKt.have ?_ | with_reducible refine AKt.tt ?_ | with_reducible refine AKt.ff ?_ | with_reducible refine AKt.yes (by assumption) ?_ | with_reducible refine AKt.no (by assumption) ?_ | with_reducible refine AKt.node (fun hb => ?_) (fun hb => ?_) | with_reducible refine AKt.need ?_ (fun hb => ?_) | with_reducible refine AKt.leaf ?_ | ((with_reducible show _ = true); assumption))
    all_goals first
      | refine AKp.again _ hfr (by repeat (first | exact True.intro | refine ⟨⟨rfl, rfl⟩, ?_⟩)) (by repeat (first | exact True.intro | refine ⟨⟨rfl, rfl, rfl⟩, ?_⟩)) (hJ (n - 1) _ _ (by omega) ⟨i + 1, _, by omega, inc_i hF hiv (by omega), ?_, ?_, rfl, rfl⟩)
        · apply hyes
          clear hJ hall hno hyes
          simp only [hF, f_ltI, f_leI, f_eqI, f_eqS, f_eqB, f_not, f_andB, f_orB, f_lenS, f_lenD, f_hasS, f_atS, f_hasC, f_subS, f_hasCat, f_app, f_wrap, f_add, f_sub, f_mul, f_appD, f_fits, f_hasV, f_subV, decide_eq_true_eq, decide_eq_false_iff_not, beq_iff_eq, beq_eq_false_iff_ne, Bool.and_eq_true, Bool.and_eq_false_iff, Bool.not_eq_true, Bool.not_eq_false, Bool.not_eq_eq_eq_not, Bool.not_true, Bool.not_false] at *
          grind
        · intro c' hc' _
          rw [← huSmall]
          clear hJ hall hno hyes
          simp only [hF, f_ltI, f_leI, f_eqI, f_eqS, f_eqB, f_not, f_andB, f_orB, f_lenS, f_lenD, f_hasS, f_atS, f_hasC, f_subS, f_hasCat, f_app, f_wrap, f_add, f_sub, f_mul, f_appD, f_fits, f_hasV, f_subV, decide_eq_true_eq, decide_eq_false_iff_not, beq_iff_eq, beq_eq_false_iff_ne, Bool.and_eq_true, Bool.and_eq_false_iff, Bool.not_eq_true, Bool.not_eq_false, Bool.not_eq_eq_eq_not, Bool.not_true, Bool.not_false] at *
          grind
      | refine AKp.doneE tabOK hfr (by rfl) ?_
        show _ = _
        simp only [tupAV]
        refine avb (Bool.eq_iff_iff.2 ?_)
        clear hJ hall hyes
        simp only [hF, f_ltI, f_leI, f_eqI, f_eqS, f_eqB, f_not, f_andB, f_orB, f_lenS, f_lenD, f_hasS, f_atS, f_hasC, f_subS, f_hasCat, f_app, f_wrap, f_add, f_sub, f_mul, f_appD, f_fits, f_hasV, f_subV, decide_eq_true_eq, decide_eq_false_iff_not, beq_iff_eq, beq_eq_false_iff_ne, Bool.and_eq_true, Bool.and_eq_false_iff, Bool.not_eq_true, Bool.not_eq_false, Bool.not_eq_eq_eq_not, Bool.not_true, Bool.not_false] at *
        unfold nameF
        subst huSmall huDigit
        grind
  · have hlt : ¬ i < w.length := by simp only [hF, f_ltI, f_leI, f_eqI, f_eqS, f_eqB, f_not, f_andB, f_orB, f_lenS, f_lenD, f_hasS, f_atS, f_hasC, f_subS, f_hasCat, f_app, f_wrap, f_add, f_sub, f_mul, f_appD, f_fits, f_hasV, f_subV, decide_eq_true_eq, decide_eq_false_iff_not, beq_iff_eq, beq_eq_false_iff_ne, Bool.and_eq_true, Bool.and_eq_false_iff, Bool.not_eq_true, Bool.not_eq_false, Bool.not_eq_eq_eq_not, Bool.not_true, Bool.not_false] at hb; omega
    have h1 : w.take i = w := List.take_of_length_le (by omega)
    rw [h1] at hall
    clear hb h1 hwl
    repeat' (first | with_reducible refine AKt.have ?_ | with_reducible refine AKt.tt ?_ | with_reducible refine AKt.ff ?_ | with_reducible refine AKt.yes (by assumption) ?_ | with_reducible refine AKt.no (by assumption) ?_ | with_reducible refine AKt.node (fun hb => ?_) (fun hb => ?_) | with_reducible refine AKt.need ?_ (fun hb => ?_) | with_reducible refine AKt.leaf ?_ | ((with_reducible show _ = true); assumption))
    all_goals
      refine AKp.doneE tabOK hfr (by rfl) ?_
      show _ = _
      simp only [tupAV]
      refine avb (Bool.eq_iff_iff.2 ?_)
      clear hJ
      simp only [hF, f_ltI, f_leI, f_eqI, f_eqS, f_eqB, f_not, f_andB, f_orB, f_lenS, f_lenD, f_hasS, f_atS, f_hasC, f_subS, f_hasCat, f_app, f_wrap, f_add, f_sub, f_mul, f_appD, f_fits, f_hasV, f_subV, decide_eq_true_eq, decide_eq_false_iff_not, beq_iff_eq, beq_eq_false_iff_ne, Bool.and_eq_true, Bool.and_eq_false_iff, Bool.not_eq_true, Bool.not_eq_false, Bool.not_eq_eq_eq_not, Bool.not_true, Bool.not_false] at *
      cases w with
      | nil => simp [nameF] at *
      | cons a r =>
        have h2 := hfi a rfl (by simp at hlt; omega)
        subst huSmall huDigit
        simp only [nameF, h2, hall]
        clear hfi hi hiv h2 hall hlt hok
        grind

theorem wordB_eq (c : UInt8) : wordB c = (smallN c.toNat || digitN c.toNat || greatN c.toNat || decide ((c.toNat : Int) = 46) || decide ((c.toNat : Int) = 95) || decide ((c.toNat : Int) = 58) || decide ((c.toNat : Int) = 47) || decide ((c.toNat : Int) = 64) || decide ((c.toNat : Int) = 45)) := by
  have e : ∀ n : Nat, n < 256 → (marks.contains (UInt8.ofNat n)) = (decide ((n : Int) = 46) || decide ((n : Int) = 95) || decide ((n : Int) = 58) || decide ((n : Int) = 47) || decide ((n : Int) = 64) || decide ((n : Int) = 45)) := by decide +kernel
  have := e c.toNat (UInt8.toNat_lt c)
  rw [UInt8.ofNat_toNat] at this
  unfold wordB plainN
  rw [this]
  simp only [Bool.or_assoc]

def φRefName (u : List UInt8 → Bool) : List AV → Option (Bool × AV)
  | [.d (.s (.str w))] => some (true, .d (.s (.bool (u w))))
  | _ => none
theorem φRefName_ok : SpOK Tryd.prog 45 (φRefName (nameF)) := by
  intro xs b x h hb
  unfold φRefName at h
  split at h
  · simp only [Option.some.injEq, Prod.mk.injEq] at h
    obtain ⟨rfl, rfl⟩ := h
    exact RefName_spec _
  · cases h
end Go.Proofs.YtlcgjeafmbbipaaDoor

/- The reference's lists. -/
namespace Go.Proofs.YtlcgjeafmbbipaaDoor
open Go Go.Proofs Go.Ua Go.Extern
set_option linter.unusedVariables false
set_option linter.unusedSimpArgs false

end Go.Proofs.YtlcgjeafmbbipaaDoor
