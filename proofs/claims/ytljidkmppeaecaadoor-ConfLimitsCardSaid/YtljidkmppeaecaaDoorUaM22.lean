/- The library of this claim and its walks, part 22, joined out of smaller texts. No statement stands in it. -/
import Derived.Test.YtljidkmppeaecaaDoorUaM17
import Derived.Test.YtljidkmppeaecaaDoorUaM21
import Derived.Lib.SplitLaws
import Derived.Lib.IndexBytes
/- Plain laws of texts: cutting at a byte. A library of this claim's own: no statement stands in it. -/
namespace Go.Ua
open Go Go.Proofs
set_option linter.unusedVariables false
set_option linter.unusedSimpArgs false

/-- The pieces between bytes of one kind. -/
def cutF (c : UInt8) : List UInt8 → List (List UInt8)
  | [] => [[]]
  | b :: r => if b = c then [] :: cutF c r else match cutF c r with
    | p :: ps => (b :: p) :: ps
    | [] => [[b]]

theorem cutF_ne (c : UInt8) (s : List UInt8) : cutF c s ≠ [] := by
  cases s with
  | nil => simp [cutF]
  | cons b r =>
    unfold cutF
    split
    · simp
    · split <;> simp

theorem cutF_index (c : UInt8) : ∀ s : List UInt8, (Lib.indexByte s c = -1 → cutF c s = [s] ∧ s.count c = 0) ∧
    (∀ i : Nat, Lib.indexByte s c = i → cutF c s = s.take i :: cutF c (s.drop (i + 1)) ∧ s.count c = (s.drop (i + 1)).count c + 1)
  | [] => ⟨fun _ => ⟨rfl, rfl⟩, fun i h => by simp [Lib.indexByte] at h⟩
  | b :: l => by
    obtain ⟨h1, h2⟩ := cutF_index c l
    have hge := Lib.indexByte_ge l c
    unfold Lib.indexByte
    rw [show cutF c (b :: l) = (if b = c then [] :: cutF c l else match cutF c l with
      | p :: ps => (b :: p) :: ps
      | [] => [[b]]) from rfl]
    by_cases e : b = c
    · subst e
      simp only [beq_self_eq_true, if_true]
      refine ⟨fun h => absurd h (by decide), fun i h => ?_⟩
      obtain rfl : i = 0 := by omega
      simp
    · have e' : (b == c) = false := by simpa using e
      rw [e', if_neg (by simp), if_neg e]
      by_cases e3 : Lib.indexByte l c = -1
      · obtain ⟨g1, g2⟩ := h1 e3
        rw [e3, g1]
        refine ⟨fun _ => ⟨rfl, by rw [List.count_cons, g2, e']; rfl⟩, fun i h => ?_⟩
        simp at h
      · obtain ⟨j, hj⟩ : ∃ j : Nat, Lib.indexByte l c = j := ⟨(Lib.indexByte l c).toNat, by omega⟩
        obtain ⟨g1, g2⟩ := h2 j hj
        have e3' : (Lib.indexByte l c == -1) = false := by simpa using e3
        rw [e3', if_neg (by simp), g1, hj]
        refine ⟨fun h => by omega, fun i h => ?_⟩
        obtain rfl : i = j + 1 := by omega
        refine ⟨by simp, ?_⟩
        rw [List.count_cons, e', g2]
        simp

theorem splitK_cut (c : UInt8) : ∀ (k : Nat) (s : List UInt8), s.count c = k → Lib.splitK [c] 0 k s = cutF c s
  | 0, s, h => by
    unfold Lib.splitK
    by_cases e : Lib.indexByte s c = -1
    · rw [((cutF_index c s).1 e).1]
    · have hge := Lib.indexByte_ge s c
      obtain ⟨j, hj⟩ : ∃ j : Nat, Lib.indexByte s c = j := ⟨(Lib.indexByte s c).toNat, by omega⟩
      have := ((cutF_index c s).2 j hj).2
      omega
  | k + 1, s, h => by
    have hge := Lib.indexByte_ge s c
    by_cases e : Lib.indexByte s c = -1
    · have := ((cutF_index c s).1 e).2
      omega
    · obtain ⟨j, hj⟩ : ∃ j : Nat, Lib.indexByte s c = j := ⟨(Lib.indexByte s c).toNat, by omega⟩
      obtain ⟨g1, g2⟩ := (cutF_index c s).2 j hj
      unfold Lib.splitK
      have e' : (Lib.index s [c] == -1) = false := by rw [Lib.index_one]; simpa using e
      rw [e', if_neg (by simp), Lib.index_one, hj, g1]
      simp only [Int.toNat_natCast, Nat.add_zero, List.length_singleton]
      rw [splitK_cut c k _ (by omega)]

theorem splitB_cut (c : UInt8) (s : List UInt8) : (Lib.splitB ⟨#[c]⟩ 0 (Lib.countB ⟨s.toArray⟩ ⟨#[c]⟩) ⟨s.toArray⟩).map (·.data.toList) = cutF c s := by
  rw [Lib.splitB_data]
  have hc : Lib.countB ⟨s.toArray⟩ ⟨#[c]⟩ = s.count c := by
    show Lib.count s [c] = _
    exact Lib.count_one c s
  rw [hc]
  show Lib.splitK [c] 0 (s.count c) s = _
  exact splitK_cut c _ s rfl

theorem cutF_all {c : UInt8} : ∀ {s p : List UInt8}, p ∈ cutF c s → p.length ≤ s.length
  | [], p, h => by simp [cutF] at h; subst h; simp
  | b :: r, p, h => by
    unfold cutF at h
    split at h
    · rcases List.mem_cons.1 h with rfl | h
      · simp
      · have := cutF_all h
        simp; omega
    · cases hr : cutF c r with
      | nil => exact absurd hr (cutF_ne c r)
      | cons q qs =>
        rw [hr] at h
        rcases List.mem_cons.1 h with rfl | h
        · have := cutF_all (c := c) (s := r) (p := q) (by rw [hr]; simp)
          simp; omega
        · have := cutF_all (c := c) (s := r) (p := p) (by rw [hr]; exact List.mem_cons_of_mem _ h)
          simp; omega
theorem cutF_len (c : UInt8) : ∀ s : List UInt8, (cutF c s).length = s.count c + 1
  | [] => rfl
  | b :: r => by
    have := cutF_len c r
    unfold cutF
    split
    · rename_i e
      subst e
      simp [this]
    · rename_i e
      cases hr : cutF c r with
      | nil => exact absurd hr (cutF_ne c r)
      | cons q qs =>
        rw [hr] at this
        simp only [List.length_cons] at this ⊢
        rw [List.count_cons, this]
        simp [e]
end Go.Ua

/- strings.Split. -/
namespace Go.Proofs.YtljidkmppeaecaaDoor
open Go Go.Proofs Go.Ua Go.Extern
set_option linter.unusedVariables false
set_option linter.unusedSimpArgs false

theorem below_alloc (w : World) (o : Obj) : RowKit.Below w.heap.size w (w.alloc o) :=
  (RowKit.Below.refl _ w).alloc (Nat.le_refl _) o
theorem heap_alloc_at (w : World) (o : Obj) : (w.alloc o).heap[w.heap.size]? = some o := by
  show (w.heap.push o)[w.heap.size]? = some o
  simp

theorem Split_spec (s : List UInt8) (c : UInt8) (hs : s.length < 4294967281) :
    ASpec Tryd.prog 28 [.d (.s (.str s)), .d (.s (.str [c]))] [] 0 (fun x h' fr' => x = .row 0 1 ∧ h' = [(0, .ds 9 1 (strDs (cutF c s)))] ∧ fr' = 1) := by
  have hm : maxLen = 9223372036854775807 := by decide
  refine ASpec.rowStrs (enters_of Tryd.func28 (by kernel_rfl) rfl) (fun p hp => by have := cutF_all hp; omega) fun R ι vs w hR hG hl hr => ?_
  obtain ⟨v0, v1, rfl⟩ : ∃ v0 v1, vs = [v0, v1] := by
    match vs, hl with
    | [v0, v1], _ => exact ⟨v0, v1, rfl⟩
  obtain rfl := rep_s (hr 0 _ _ rfl rfl)
  obtain rfl := rep_s (hr 1 _ _ rfl rfl)
  obtain ⟨cs, t, fz, ⟨m, hm0⟩, hb⟩ := hG 1 _ G_maxlen
  have hcell : w.cell? ⟨1, 0, none⟩ = some (.int .i64 m) := by
    unfold World.cell?
    rw [hb]
    simpa using hm0
  have hlen : Lib.countB ⟨s.toArray⟩ ⟨#[c]⟩ + 1 = (cutF c s).length := by
    rw [cutF_len]
    show Lib.count s [c] + 1 = _
    rw [Lib.count_one]
  have hcnt : (cutF c s).length ≤ 4294967281 := by
    rw [cutF_len]
    have := List.count_le_length (a := c) (l := s)
    omega
  refine (Tryd.strings_Split ⟨s.toArray⟩ ⟨#[c]⟩ m w (by rw [str_size]; exact hs) hcell (by show 1 ≤ 1; decide)).mono ?_
  rintro e w' ⟨rfl, rfl⟩
  have hxs : (cutF c s).map (fun p => Value.string ⟨p.toArray⟩) = (Lib.splitB ⟨#[c]⟩ 0 (Lib.countB ⟨s.toArray⟩ ⟨#[c]⟩) ⟨s.toArray⟩).map Value.string := by
    rw [← splitB_cut, List.map_map]
    refine List.map_congr_left fun b _ => ?_
    simp
  rw [← hxs, hlen]
  refine ⟨_, rfl, ⟨by simp, .inr ⟨w.heap.size, _, _, rfl, Nat.le_refl _, heap_alloc_at _ _, Nat.le_refl _, by omega, by simp, ?_⟩⟩, below_alloc _ _⟩
  simp only [Nat.mul_one]
  exact List.take_of_length_le (by simp)

end Go.Proofs.YtljidkmppeaecaaDoor

/- slices.Contains; lines. -/
namespace Go.Proofs.YtljidkmppeaecaaDoor
open Go Go.Proofs Go.Ua Go.Extern
set_option linter.unusedVariables false
set_option linter.unusedSimpArgs false

theorem strDs_get {zs : List (List UInt8)} {i : Nat} {s : List UInt8} (h : zs[i]? = some s) : (strDs zs)[i]? = some (.s (.str s)) := by simp [strDs, h]

theorem l_cutD0 {F : Fam} (hF : F = Fam.real) {es : List Dat} {i : Nat} {iv : Int} (hi : iv = i) (h : i ≤ es.length) : F .cutD es 0 iv = some (es.take i) := by
  subst hF; subst hi
  show cutI es 0 (i : Int) = _
  unfold cutI
  rw [if_pos ⟨by omega, by omega, by omega⟩]
  simp

/-- What a list of strings is in memory. -/
theorem view_strs {R : Rd} {zs : List (List UInt8)} {v : Value} (h : RepD R (.view 1 (strDs zs)) v) :
    (zs = [] ∧ ∃ a cap, v = .slice a 0 cap) ∨ (∃ b off cap, v = .slice (some ⟨b, off, none⟩) zs.length cap ∧ zs.length ≤ cap ∧ zs.length ≤ maxLen ∧ ∀ (j : Nat) (s : List UInt8), zs[j]? = some s → R b (off + j) (.string ⟨s.toArray⟩)) := by
  generalize hx : Dat.view 1 (strDs zs) = x at h
  cases h with
  | nil k =>
    injection hx with _ hz
    have : zs = [] := by simpa [strDs] using hz
    exact .inl ⟨this, _, _, rfl⟩
  | view k es a cap f hc hm hsp hk hr h =>
    cases hx
    by_cases h0 : zs = []
    · subst h0
      exact .inl ⟨rfl, _, _, rfl⟩
    · have hs := hsp (by simpa [strDs] using h0)
      have hl : (strDs zs).length = zs.length := by simp [strDs]
      rw [hl] at hc
      refine .inr ⟨a.block, a.off, cap, ?_, hc, Nat.le_trans hc hm, fun j s hj => ?_⟩
      · rw [hl]
        obtain ⟨b, o, sp⟩ := a
        simp only at hs
        subst hs
        rfl
      · have h1 := hr j _ 0 _ (strDs_get hj) rfl
        have h2 := (h j _ 0 _ (strDs_get hj) rfl).sc
        rw [Nat.mul_one, Nat.add_zero, h2] at h1
        exact h1
  | _ => cases hx

theorem Contains_spec (zs : List (List UInt8)) (x : List UInt8) : ESpec Tryd.prog 81 [.d (.view 1 (strDs zs)), .d (.s (.str x))] (fun y => y = .d (.s (.bool (zs.contains x)))) := by
  have hm : maxLen = 9223372036854775807 := by decide
  refine ESpec.grown (enters_of Tryd.func81 (by kernel_rfl) rfl) trivial fun R ι vs w hR hG hl hr => ?_
  obtain ⟨v0, v1, rfl⟩ : ∃ v0 v1, vs = [v0, v1] := by
    match vs, hl with
    | [v0, v1], _ => exact ⟨v0, v1, rfl⟩
  obtain rfl := rep_s (hr 1 _ _ rfl rfl)
  have h0 := rep_d (hr 0 _ _ rfl rfl)
  rcases view_strs h0 with ⟨rfl, a, cap, rfl⟩ | ⟨b, off, cap, rfl, hcap, hmx, hcell⟩
  · refine (Tryd.slices_Contains_string_empty a cap ⟨x.toArray⟩ w).mono ?_
    rintro e w' ⟨rfl, rfl⟩
    exact ⟨rfl, RowKit.Below.refl _ _⟩
  · obtain ⟨L, hL⟩ : ∃ L : List ByteArray, L = zs.map fun s => ⟨s.toArray⟩ := ⟨_, rfl⟩
    have hLl : L.length = zs.length := by rw [hL]; simp
    refine (Tryd.slices_Contains_string b off zs.length cap L ⟨x.toArray⟩ w (by omega) (by omega) (fun j hj => ?_)).mono ?_
    · obtain ⟨s, hs⟩ : ∃ s, zs[j]? = some s := ⟨_, List.getElem?_eq_getElem (by omega)⟩
      rw [hR _ _ _ (hcell j s hs)]
      simp [hL, hs]
    · rintro e w' ⟨rfl, rfl⟩
      refine ⟨?_, RowKit.Below.refl _ _⟩
      have : Lib.containsS (L.take zs.length) ⟨x.toArray⟩ = zs.contains x := by
        rw [← hLl, List.take_length]
        apply Bool.eq_iff_iff.2
        rw [Lib.containsS_iff, hL, List.contains_iff_mem]
        constructor
        · intro h
          obtain ⟨s, hs, e⟩ := List.mem_map.1 h
          have : s = x := by simpa using e
          exact this ▸ hs
        · intro h
          exact List.mem_map.2 ⟨x, h, rfl⟩
      rw [this]
      rfl

/-- A text's lines. -/
def linesF (s : List UInt8) : List (List UInt8) := if (cutF 10 s).getLastD [] = [] then (cutF 10 s).dropLast else cutF 10 s

theorem Lines_spec (s : List UInt8) (hs : s.length < 4294967281) : ESpec Tryd.prog 18 [.d (.s (.str s))] (fun x => x = .d (.view 1 (strDs (linesF s)))) := by
  have sp := ESpec.ofRow (Split_spec s 10 hs)
  have hl1 := cutF_len 10 s
  have hcl := List.count_le_length (a := (10 : UInt8)) (l := s)
  obtain ⟨c10, hc10⟩ : ∃ c : List UInt8, c = [10] := ⟨_, rfl⟩
  rw [← hc10] at sp
  obtain ⟨es, hes⟩ : ∃ z, z = strDs (cutF 10 s) := ⟨_, rfl⟩
  rw [← hes] at sp
  obtain ⟨z, hz⟩ : ∃ z, z = strDs (linesF s) := ⟨_, rfl⟩
  rw [← hz]
  refine ESpec.enter Tryd.func18 (by kernel_rfl) rfl (Nat.le_of_ble_eq_true rfl) fun hok cx hnt hfr => ?_
  obtain ⟨F, hF⟩ := real_ex
  refine AK.run hF tabOK hnt ?_
  conv => arg 4; cbv
  rw [hc10] at sp
  have hne : es ≠ [] := by rw [hes]; simpa [strDs] using cutF_ne 10 s
  have hel : es.length = (cutF 10 s).length := by rw [hes]; simp [strDs]
  have h1 : 1 ≤ es.length := by
    cases es with
    | nil => exact absurd rfl hne
    | cons _ _ => simp
  obtain ⟨iv, hiv⟩ : ∃ z, z = F .wrap .i64 (F .sub (F .lenD es) 1) := ⟨_, rfl⟩
  have hiv' : iv = ((es.length - 1 : Nat) : Int) := by
    rw [hiv, hF]
    show IntKind.i64.wrap ((es.length : Int) - 1) = _
    rw [w_i64 (by omega) (by omega)]
    omega
  obtain ⟨p, hp⟩ : ∃ p, (cutF 10 s)[es.length - 1]? = some p := ⟨_, List.getElem?_eq_getElem (by omega)⟩
  have hlast : (cutF 10 s).getLastD [] = p := by
    rw [List.getLastD_eq_getLast?, List.getLast?_eq_getElem?, ← hel, hp]; rfl
  have hg : F .getD es iv = some (.s (.str p)) := l_getD hF (i := es.length - 1) (by rw [hes]; rw [hes] at hp; exact strDs_get hp) hiv'
  refine AKp.call hF tabOK hnt sp rfl rfl rfl rfl rfl rfl rfl (by repeat' first | exact .refl _ | constructor) ?_
  rintro _ rfl
  conv => arg 4; cbv
  rw [← hiv, hg]
  conv => arg 4; cbv
  cases hb : F .eqS p []
  case' true =>
    have hb' := eqS1 hF hb
    have hzz : z = es.take (es.length - 1) := by
      rw [hz, linesF, if_pos (by rw [hlast, hb'])]
      rw [List.dropLast_eq_take, hes]
      simp [strDs]
    conv => arg 4; cbv
    rw [← hiv, l_cutD0 hF hiv' (by omega), ← hzz]
    conv => arg 4; cbv
    exact AKp.doneE tabOK hfr (by rfl) (by rfl)
  case' false =>
    have hb' := eqS0 hF hb
    conv => arg 4; cbv
    rw [show es = z by rw [hz, linesF, if_neg (by rw [hlast]; exact hb'), hes]]
    exact AKp.doneE tabOK hfr (by rfl) (by rfl)
end Go.Proofs.YtljidkmppeaecaaDoor

/- Lists of words. -/
namespace Go.Proofs.YtljidkmppeaecaaDoor
open Go Go.Proofs Go.Ua Go.Extern
set_option linter.unusedVariables false
set_option linter.unusedSimpArgs false

/-- These are the words of a list. -/
def goodF (l : List (List UInt8)) : Bool := (l == [[42]]) || (l.all wordF && decide l.Nodup && decide (l.length ≤ 8))

theorem nodup_take_succ {α : Type} {l : List α} {i : Nat} {x : α} (h : l[i]? = some x) : (l.take (i + 1)).Nodup ↔ (l.take i).Nodup ∧ x ∉ l.take i := by
  rw [List.take_add_one, h]
  simp only [Option.toList_some]
  rw [List.nodup_append]
  constructor
  · rintro ⟨h1, _, h3⟩
    exact ⟨h1, fun hm => h3 x hm x (by simp) rfl⟩
  · rintro ⟨h1, h2⟩
    refine ⟨h1, by simp, fun a ha b hb => ?_⟩
    obtain rfl := List.mem_singleton.1 hb
    rintro rfl
    exact h2 ha

theorem good_spec (l : List (List UInt8)) : ESpec Tryd.prog 73 [.d (.view 1 (strDs l))] (fun x => x = .d (.s (.bool (goodF l)))) := by
  obtain ⟨z, hz⟩ : ∃ z, z = goodF l := ⟨_, rfl⟩
  rw [← hz]
  unfold goodF at hz
  obtain ⟨es, hes⟩ : ∃ z, z = strDs l := ⟨_, rfl⟩
  rw [← hes]
  have hel : es.length = l.length := by rw [hes]; simp [strDs]
  refine ESpec.enter Tryd.func73 (by kernel_rfl) rfl (Nat.le_of_ble_eq_true rfl) fun hok cx hnt hfr => ?_
  have hml : es.length ≤ maxLen := hok.1.1
  have hm : maxLen = 9223372036854775807 := by decide
  obtain ⟨F, hF⟩ := real_ex
  refine AK.run hF tabOK hnt ?_
  conv => arg 4; cbv
  have rest : z = true ∨ (l == [[42]]) = false := by
    rw [hz]
    cases l == [[42]]
    · exact .inr rfl
    · exact .inl rfl
  cases h1 : F .eqI (F .lenD es) 1
  case' true =>
    have h1' := eqI1 hF h1
    rw [l_lenD hF] at h1'
    obtain ⟨a, hla⟩ : ∃ a, l = [a] := by
      match l, (show l.length = 1 by omega) with
      | [a], _ => exact ⟨a, rfl⟩
    have hg : F .getD es 0 = some (.s (.str a)) := l_getD hF (i := 0) (by rw [hes, hla]; rfl) rfl
    conv => arg 4; cbv
    rw [hg]
    conv => arg 4; cbv
    cases h2 : F .eqS a [42]
    case' true =>
      have h2' := eqS1 hF h2
      conv => arg 4; cbv
      rw [show z = true by rw [hz, hla, h2']; rfl]
      exact AKp.doneE tabOK hfr (by rfl) (by rfl)
    case' false =>
    have h2' := eqS0 hF h2
    have hst : (l == [[42]]) = false := by
      rw [hla, beq_eq_false_iff_ne]
      intro e
      exact h2' (by simpa using e)
  case' false =>
    have h1' := eqI0 hF h1
    rw [l_lenD hF] at h1'
    have hst : (l == [[42]]) = false := by
      rw [beq_eq_false_iff_ne]
      rintro rfl
      exact h1' (by rw [hel]; rfl)
  all_goals
    rw [hst, Bool.false_or] at hz
    clear rest
    conv => arg 4; cbv
    refine AKp.enterLoop 16 ?_
    conv => arg 7; cbv
    refine AKl.inv hF tabOK hnt hfr (fun n vs hs => ∃ (i : Nat) (iv : Int), i + n = l.length ∧ iv = i ∧ (l.take i).all wordF = true ∧ (l.take i).Nodup ∧ vs = [(16, .d (.s (.int .i64 iv)))] ∧ hs = []) l.length
      ⟨0, _, by omega, rfl, by simp, by simp, rfl, rfl⟩ (by repeat (first | exact True.intro | refine ⟨⟨rfl, rfl⟩, ?_⟩)) (by repeat (first | exact True.intro | refine ⟨⟨rfl, rfl, rfl⟩, ?_⟩)) ?_
    rintro J n vs hs hJ ⟨i, iv, hi, hiv, hall, hnd, rfl, rfl⟩
    conv => arg 4; cbv
    cases hb : F .ltI iv (F .lenD es)
    case' false =>
      have hlt := ltI0 hF hb
      rw [l_lenD hF] at hlt
      rw [List.take_of_length_le (by omega)] at hall hnd
      rw [hall, decide_eq_true hnd] at hz
      conv => arg 4; cbv
      rw [show F .leI (F .lenD es) 8 = z by rw [hz, l_leI hF, l_lenD hF, hel]; exact decide_eq_decide.2 ⟨fun h => by omega, fun h => by omega⟩]
      exact AKp.doneE tabOK hfr (by rfl) (by rfl)
    case' true =>
      have hlt := ltI1 hF hb
      rw [l_lenD hF] at hlt
      have hil : i < l.length := by omega
      obtain ⟨a, ha⟩ : ∃ a, l[i]? = some a := ⟨_, List.getElem?_eq_getElem hil⟩
      have hg : F .getD es iv = some (.s (.str a)) := l_getD hF (i := i) (by rw [hes]; exact strDs_get ha) hiv
      have sw := Word_spec a
      have sc := Contains_spec (l.take i) a
      obtain ⟨r, hr⟩ : ∃ r, r = es.take i := ⟨_, rfl⟩
      have hct := l_cutD0 hF (es := es) hiv (by omega)
      rw [← hr] at hct
      rw [show strDs (l.take i) = r by rw [hr, hes]; simp [strDs]] at sc
      have hbad : wordF a = false → z = false := fun h => by rw [hz, all_false ha h]; rfl
      have hdup : (l.take i).contains a = true → z = false := fun h => by
        have : ¬ l.Nodup := by
          intro hn
          have := (nodup_take_succ ha).1 (hn.sublist (List.take_sublist _ _))
          exact this.2 (List.contains_iff_mem.1 h)
        rw [hz, decide_eq_false this, Bool.and_false, Bool.false_and]
      have hnext : wordF a = true → (l.take i).contains a = false → (l.take (i + 1)).all wordF = true ∧ (l.take (i + 1)).Nodup := fun h1 h2 =>
        ⟨all_take_succ ha hall h1, (nodup_take_succ ha).2 ⟨hnd, fun hm => by have := List.contains_iff_mem.2 hm; rw [h2] at this; cases this⟩⟩
      generalize wordF a = wa at sw hbad hnext
      generalize (l.take i).contains a = ca at sc hdup hnext
      conv => arg 4; cbv
      rw [hg]
      conv => arg 4; cbv
      refine AKp.call hF tabOK hnt sw rfl rfl rfl rfl rfl rfl rfl (by repeat' first | exact .refl _ | constructor) ?_
      rintro _ rfl
      conv => arg 4; cbv
      cases wa
      case' false =>
        rw [l_not0 hF]
        conv => arg 4; cbv
        rw [hbad rfl]
        exact AKp.doneE tabOK hfr (by rfl) (by rfl)
      case' true =>
      rw [l_not1 hF]
      conv => arg 4; cbv
      rw [hct]
      conv => arg 4; cbv
      refine AKp.call hF tabOK hnt sc rfl rfl rfl rfl rfl rfl rfl (by repeat' first | exact .refl _ | constructor) ?_
      rintro _ rfl
      conv => arg 4; cbv
      cases ca
      case' true =>
        conv => arg 4; cbv
        rw [hdup rfl]
        exact AKp.doneE tabOK hfr (by rfl) (by rfl)
      case' false =>
      conv => arg 4; cbv
      refine AKp.again _ hfr (by repeat (first | exact True.intro | refine ⟨⟨rfl, rfl⟩, ?_⟩)) (by repeat (first | exact True.intro | refine ⟨⟨rfl, rfl, rfl⟩, ?_⟩)) (hJ (n - 1) _ _ (by omega) ⟨i + 1, _, by omega, inc_i hF hiv (by omega), (hnext rfl rfl).1, (hnext rfl rfl).2, rfl, rfl⟩)
end Go.Proofs.YtljidkmppeaecaaDoor

/- Lists, as texts. -/
namespace Go.Proofs.YtljidkmppeaecaaDoor
open Go Go.Proofs Go.Ua Go.Extern
set_option linter.unusedVariables false
set_option linter.unusedSimpArgs false

def listF (w : List UInt8) : Option (List (List UInt8)) := if w = [45] then some [] else if 520 < w.length then none else if goodF (cutF 44 w) = true then some (cutF 44 w) else none
def listAV : Option (List (List UInt8)) → AV
  | some l => .tup [.d (.view 1 (strDs l)), .d (.s (.bool true))]
  | none => .tup [.d (.view 1 []), .d (.s (.bool false))]

theorem List_spec (w : List UInt8) : ESpec Tryd.prog 64 [.d (.s (.str w))] (fun x => x = listAV (listF w)) := by
  obtain ⟨z, hz⟩ : ∃ z, z = listAV (listF w) := ⟨_, rfl⟩
  rw [← hz]
  unfold listF at hz
  refine ESpec.enter Tryd.func64 (by kernel_rfl) rfl (Nat.le_of_ble_eq_true rfl) fun hok cx hnt hfr => ?_
  obtain ⟨F, hF⟩ := real_ex
  refine AK.run hF tabOK hnt ?_
  conv => arg 4; cbv
  cases h1 : F .eqS w [45]
  case' true =>
    have h1' := eqS1 hF h1
    conv => arg 4; cbv
    refine AKp.retell 2 (.view 1 []) rfl (by repeat constructor) ?_
    conv => arg 4; arg 2; cbv
    rw [show z = .tup [.d (.view 1 []), .d (.s (.bool true))] by rw [hz, if_pos h1']; rfl]
    exact AKp.doneE tabOK hfr (by rfl) (by rfl)
  case' false =>
  have h1' := eqS0 hF h1
  rw [if_neg h1'] at hz
  conv => arg 4; cbv
  cases h2 : F .ltI 520 (F .lenS w)
  case' true =>
    have h2' := ltI1 hF h2
    rw [l_lenS hF] at h2'
    conv => arg 4; cbv
    refine AKp.retell 2 (.view 1 []) rfl (by repeat constructor) ?_
    conv => arg 4; arg 2; cbv
    rw [show z = .tup [.d (.view 1 []), .d (.s (.bool false))] by rw [hz, if_pos (by omega)]; rfl]
    exact AKp.doneE tabOK hfr (by rfl) (by rfl)
  case' false =>
  have h2' := ltI0 hF h2
  rw [l_lenS hF] at h2'
  rw [if_neg (by omega)] at hz
  have ss := ESpec.ofRow (Split_spec w 44 (by omega))
  have sg := good_spec (cutF 44 w)
  obtain ⟨es, hes⟩ : ∃ z, z = strDs (cutF 44 w) := ⟨_, rfl⟩
  obtain ⟨g, hg⟩ : ∃ z, z = goodF (cutF 44 w) := ⟨_, rfl⟩
  rw [← hes] at ss sg
  rw [← hg] at sg hz
  conv => arg 4; cbv
  refine AKp.call hF tabOK hnt ss rfl rfl rfl rfl rfl rfl rfl (by repeat' first | exact .refl _ | constructor) ?_
  rintro _ rfl
  conv => arg 4; cbv
  refine AKp.call hF tabOK hnt sg rfl rfl rfl rfl rfl rfl rfl (by repeat' first | exact .refl _ | constructor) ?_
  rintro _ rfl
  conv => arg 4; cbv
  cases g
  case' false =>
    rw [l_not0 hF]
    conv => arg 4; cbv
    refine AKp.retell 2 (.view 1 []) rfl (by repeat constructor) ?_
    conv => arg 4; arg 2; cbv
    rw [show z = .tup [.d (.view 1 []), .d (.s (.bool false))] by rw [hz]; rfl]
    exact AKp.doneE tabOK hfr (by rfl) (by rfl)
  case' true =>
  rw [l_not1 hF]
  conv => arg 4; cbv
  rw [show z = .tup [.d (.view 1 es), .d (.s (.bool true))] by rw [hz, hes]; rfl]
  exact AKp.doneE tabOK hfr (by rfl) (by rfl)

theorem space_spec (n : Int) : ESpec Tryd.prog 30 [.d (.s (.int .i32 n))] (fun x => x = .d (.s (.bool (n == 32)))) := by
  obtain ⟨z, hz⟩ : ∃ z, z = (n == 32) := ⟨_, rfl⟩
  rw [← hz]
  refine ESpec.enter Tryd.func30 (by kernel_rfl) rfl (Nat.le_of_ble_eq_true rfl) fun _ cx hnt hfr => ?_
  obtain ⟨F, hF⟩ := real_ex
  refine AK.run hF tabOK hnt ?_
  conv => arg 4; cbv
  rw [show F .eqI n 32 = z by rw [hz, l_eqI hF]]
  exact AKp.doneE tabOK hfr (by rfl) (by rfl)
end Go.Proofs.YtljidkmppeaecaaDoor

