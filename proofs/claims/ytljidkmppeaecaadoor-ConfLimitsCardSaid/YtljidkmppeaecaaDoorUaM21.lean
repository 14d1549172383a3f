/- The library of this claim and its walks, part 21, joined out of smaller texts. No statement stands in it. -/
import Derived.Test.YtljidkmppeaecaaDoorUaM20
import Derived.Shelf.Small.Strs
import Derived.Shelf.Utf8.RuneCount
import Derived.Shelf.Strings.Search1
import Derived.Shelf.Strings.Search2
import Derived.Shelf.Strings.Search3
import Derived.Shelf.Strings.Count
import Derived.Shelf.LaysM
import Derived.Shelf.Strings.Shaped
import Derived.Shelf.Strings.Prefix
import Derived.Shelf.Strings.Split
import Derived.Shelf.Strings.SplitShaped
import Derived.Shelf.Unicode.Decode
import Derived.Shelf.Strings.RuneCount
import Derived.Shelf.Strings.Explode
import Derived.Shelf.Unicode.DecodeSlow
import Derived.Shelf.Unicode.DecodeAny
import Derived.Shelf.Strings.FieldsFuncAny
import Derived.Shelf.Strings.FieldsFuncGrows
import Derived.Shelf.Slices.Turned
import Derived.Test.YtljidkmppeaecaaDoorProg
/- The library's contracts at this program, as the kit's own tool lays them (lay-shelf, lay-plain). -/
namespace Go.Proofs
open Go.Shelf
def Tryd.lays137_ren : Go.Shelf.Ren := ⟨fun | 137 => 85 | 217 => 76 | 266 => 83 | n => n, fun | 9 => 9 | 5 => 5 | 3 => 3 | n => n, fun | n => n⟩
theorem Tryd.lays137 : Go.Proofs.Lays.n137 Tryd.prog Tryd.lays137_ren := {
  mixed := by kernel_rfl
  f137 := Tryd.func85.trans (congrArg some (by kernel_rfl))
  f217 := Tryd.func76.trans (congrArg some (by kernel_rfl))
  f266 := Tryd.func83.trans (congrArg some (by kernel_rfl))
  t3 := Tryd.underlying3
  a3 := Tryd.isAgg3
  z3 := Tryd.sizeOf3
  v3 := Tryd.zeroValue3
  t5 := Tryd.underlying5
  a5 := Tryd.isAgg5
  z5 := Tryd.sizeOf5
  v5 := Tryd.zeroValue5
  t9 := Tryd.underlying9
  a9 := Tryd.isAgg9
  z9 := Tryd.sizeOf9
  v9 := Tryd.zeroValue9 }
open Go.RowKit in
theorem Tryd.strings_IndexByte (s : ByteArray) (c : Int) (w : World) :
    Calls Tryd.prog 85 #[.string s, .int .u8 c] w fun e w' => e = .returned (.int .i64 (Lib.indexByte s.data.toList c.toNat.toUInt8)) ∧ w' = w := Any.strings_IndexByte Tryd.lays137 s c w
def Tryd.lays146_ren : Go.Shelf.Ren := ⟨fun | 146 => 28 | 221 => 47 | 268 => 60 | 138 => 61 | 143 => 62 | 195 => 68 | 197 => 69 | 218 => 70 | 219 => 71 | 260 => 75 | 217 => 76 | 225 => 77 | 224 => 78 | 267 => 79 | 266 => 83 | 314 => 84 | n => n, fun | 9 => 9 | 31 => 38 | 3 => 3 | 4 => 4 | 0 => 0 | 105 => 130 | 21 => 21 | 5 => 5 | 46 => 53 | 119 => 135 | 139 => 138 | 138 => 137 | 146 => 140 | 51 => 139 | n => n, fun | 1 => 1 | 3 => 2 | 4 => 3 | n => n⟩
theorem Tryd.lays146 : Go.Proofs.Lays.n146 Tryd.prog Tryd.lays146_ren := {
  mixed := by kernel_rfl
  f138 := Tryd.func61.trans (congrArg some (by kernel_rfl))
  f143 := Tryd.func62.trans (congrArg some (by kernel_rfl))
  f146 := Tryd.func28.trans (congrArg some (by kernel_rfl))
  f195 := Tryd.func68.trans (congrArg some (by kernel_rfl))
  f197 := Tryd.func69.trans (congrArg some (by kernel_rfl))
  f217 := Tryd.func76.trans (congrArg some (by kernel_rfl))
  f218 := Tryd.func70.trans (congrArg some (by kernel_rfl))
  f219 := Tryd.func71.trans (congrArg some (by kernel_rfl))
  f221 := Tryd.func47.trans (congrArg some (by kernel_rfl))
  f224 := Tryd.func78.trans (congrArg some (by kernel_rfl))
  f225 := Tryd.func77.trans (congrArg some (by kernel_rfl))
  f260 := Tryd.func75.trans (congrArg some (by kernel_rfl))
  f266 := Tryd.func83.trans (congrArg some (by kernel_rfl))
  f267 := Tryd.func79.trans (congrArg some (by kernel_rfl))
  f268 := Tryd.func60.trans (congrArg some (by kernel_rfl))
  f314 := Tryd.func84.trans (congrArg some (by kernel_rfl))
  t0 := Tryd.underlying0
  a0 := Tryd.isAgg0
  z0 := Tryd.sizeOf0
  v0 := Tryd.zeroValue0
  t3 := Tryd.underlying3
  a3 := Tryd.isAgg3
  z3 := Tryd.sizeOf3
  v3 := Tryd.zeroValue3
  t4 := Tryd.underlying4
  a4 := Tryd.isAgg4
  z4 := Tryd.sizeOf4
  v4 := Tryd.zeroValue4
  t5 := Tryd.underlying5
  a5 := Tryd.isAgg5
  z5 := Tryd.sizeOf5
  v5 := Tryd.zeroValue5
  t9 := Tryd.underlying9
  a9 := Tryd.isAgg9
  z9 := Tryd.sizeOf9
  v9 := Tryd.zeroValue9
  t21 := Tryd.underlying21
  a21 := Tryd.isAgg21
  z21 := Tryd.sizeOf21
  v21 := Tryd.zeroValue21
  t31 := Tryd.underlying38
  a31 := Tryd.isAgg38
  z31 := Tryd.sizeOf38
  v31 := Tryd.zeroValue38
  t46 := Tryd.underlying53
  a46 := Tryd.isAgg53
  z46 := Tryd.sizeOf53
  v46 := Tryd.zeroValue53
  t51 := Tryd.underlying139
  a51 := Tryd.isAgg139
  z51 := Tryd.sizeOf139
  v51 := Tryd.zeroValue139
  t105 := Tryd.underlying130
  a105 := Tryd.isAgg130
  z105 := Tryd.sizeOf130
  v105 := Tryd.zeroValue130
  t119 := Tryd.underlying135
  a119 := Tryd.isAgg135
  z119 := Tryd.sizeOf135
  t138 := Tryd.underlying137
  a138 := Tryd.isAgg137
  z138 := Tryd.sizeOf137
  v138 := Tryd.zeroValue137
  t139 := Tryd.underlying138
  a139 := Tryd.isAgg138
  z139 := Tryd.sizeOf138
  v139 := Tryd.zeroValue138
  t146 := Tryd.underlying140
  a146 := Tryd.isAgg140
  z146 := Tryd.sizeOf140
  v146 := Tryd.zeroValue140
  g1 := by kernel_rfl
  g3 := by kernel_rfl
  g4 := by kernel_rfl }
open Go.RowKit Go.Lib in
theorem Tryd.strings_Split (s sep : ByteArray) (m : Int) (w : World) (hs : s.size < 4294967281) (hm : w.cell? ⟨1, 0, none⟩ = some (.int .i64 m)) (h1 : 1 ≤ sep.size) :
    Calls Tryd.prog 28 #[.string s, .string sep] w fun e w' =>
      e = .returned (.slice (some ⟨w.heap.size, 0, none⟩) (Lib.countB s sep + 1) (Lib.countB s sep + 1)) ∧ w' = w.alloc (.cells ((Lib.splitB sep 0 (Lib.countB s sep) s).map Value.string).toArray 9) := Any.strings_Split Tryd.lays146 (by kernel_rfl) s sep m w hs hm h1
def Tryd.lays229_ren : Go.Shelf.Ren := ⟨fun | 229 => 29 | n => n, fun | 9 => 9 | 40 => 73 | 31 => 38 | 152 => 96 | 3 => 3 | 0 => 0 | 4 => 4 | 21 => 21 | 154 => 98 | n => n, fun | n => n⟩
theorem Tryd.lays229 : Go.Proofs.Lays.n229 Tryd.prog Tryd.lays229_ren := {
  mixed := by kernel_rfl
  f229 := Tryd.func29.trans (congrArg some (by kernel_rfl))
  t0 := Tryd.underlying0
  a0 := Tryd.isAgg0
  z0 := Tryd.sizeOf0
  v0 := Tryd.zeroValue0
  t3 := Tryd.underlying3
  a3 := Tryd.isAgg3
  z3 := Tryd.sizeOf3
  v3 := Tryd.zeroValue3
  t4 := Tryd.underlying4
  a4 := Tryd.isAgg4
  z4 := Tryd.sizeOf4
  v4 := Tryd.zeroValue4
  t9 := Tryd.underlying9
  a9 := Tryd.isAgg9
  z9 := Tryd.sizeOf9
  v9 := Tryd.zeroValue9
  t21 := Tryd.underlying21
  a21 := Tryd.isAgg21
  z21 := Tryd.sizeOf21
  v21 := Tryd.zeroValue21
  t31 := Tryd.underlying38
  a31 := Tryd.isAgg38
  z31 := Tryd.sizeOf38
  v31 := Tryd.zeroValue38
  t40 := Tryd.underlying73
  a40 := Tryd.isAgg73
  z40 := Tryd.sizeOf73
  v40 := Tryd.zeroValue73
  t152 := Tryd.underlying96
  a152 := Tryd.isAgg96
  z152 := Tryd.sizeOf96
  v152 := Tryd.zeroValue96
  t154 := Tryd.underlying98
  a154 := Tryd.isAgg98
  z154 := Tryd.sizeOf98
  v154 := Tryd.zeroValue98 }
open Go.RowKit Go.Lib in
theorem Tryd.strings_FieldsFunc_grows (g : Nat) (lb : Array Value) (eg : ∀ args w, (callFunc g args).run Tryd.prog w = .ok (.enter g args) w) (p : Nat → Bool) (s : ByteArray) (w : World) (hs : s.size ≤ 4294967296) (hp : PredGrows Tryd.prog g lb p w) :
    Calls Tryd.prog 29 #[.string s, .func (.func g) #[] lb] w fun e w' => ∃ A, e = .returned (.slice (some ⟨A, 0, none⟩) (Lib.goFieldsP p s).length (Lib.goFieldsP p s).length) ∧ w.heap.size ≤ A ∧
      w'.ownsRow w.heap.size 9 1 (.slice (some ⟨A, 0, none⟩) (Lib.goFieldsP p s).length (Lib.goFieldsP p s).length) (Lib.goFieldsP p s).length ((Lib.goFieldsP p s).map Value.string) ∧ Below w.heap.size w w' := Any.strings_FieldsFunc_grows Tryd.lays229 g lb eg p s w hs hp (by kernel_rfl) (by kernel_rfl)
def Tryd.lays110_ren : Go.Shelf.Ren := ⟨fun | 110 => 81 | 109 => 86 | n => n, fun | 31 => 38 | 9 => 9 | 4 => 4 | 3 => 3 | 0 => 0 | n => n, fun | n => n⟩
theorem Tryd.lays110 : Go.Proofs.Lays.n110 Tryd.prog Tryd.lays110_ren := {
  mixed := by kernel_rfl
  f109 := Tryd.func86.trans (congrArg some (by kernel_rfl))
  f110 := Tryd.func81.trans (congrArg some (by kernel_rfl))
  t0 := Tryd.underlying0
  a0 := Tryd.isAgg0
  z0 := Tryd.sizeOf0
  v0 := Tryd.zeroValue0
  t3 := Tryd.underlying3
  a3 := Tryd.isAgg3
  z3 := Tryd.sizeOf3
  v3 := Tryd.zeroValue3
  t4 := Tryd.underlying4
  a4 := Tryd.isAgg4
  z4 := Tryd.sizeOf4
  v4 := Tryd.zeroValue4
  t9 := Tryd.underlying9
  a9 := Tryd.isAgg9
  z9 := Tryd.sizeOf9
  v9 := Tryd.zeroValue9
  t31 := Tryd.underlying38
  a31 := Tryd.isAgg38
  z31 := Tryd.sizeOf38
  v31 := Tryd.zeroValue38 }
open Go.Lib in
theorem Tryd.slices_Contains_string (b off n c : Nat) (zs : List ByteArray) (x : ByteArray) (w : World) (hz : n ≤ zs.length) (hbig : n ≤ 9223372036854775807) (hc : ∀ j, j < zs.length → w.cell? ⟨b, off + j, none⟩ = some (.string (zs.getD j ByteArray.empty))) :
    Calls Tryd.prog 81 #[.slice (some ⟨b, off, none⟩) n c, .string x] w fun e w' => e = .returned (.bool (Lib.containsS (zs.take n) x)) ∧ w' = w := Any.slices_Contains_string Tryd.lays110 b off n c zs x w hz hbig hc
open Go.Lib in
theorem Tryd.slices_Contains_string_empty (a : Option Addr) (c : Nat) (x : ByteArray) (w : World) :
    Calls Tryd.prog 81 #[.slice a 0 c, .string x] w fun e w' => e = .returned (.bool false) ∧ w' = w := Any.slices_Contains_string_empty Tryd.lays110 a c x w
end Go.Proofs

/- What bytes are; names, words. -/
namespace Go.Proofs.YtljidkmppeaecaaDoor
open Go Go.Proofs Go.Ua Go.Extern
set_option linter.unusedVariables false
set_option linter.unusedSimpArgs false

def smallN (n : Int) : Bool := decide (97 ≤ n) && decide (n ≤ 122)
def greatN (n : Int) : Bool := decide (65 ≤ n) && decide (n ≤ 90)
def digitN (n : Int) : Bool := decide (48 ≤ n) && decide (n ≤ 57)
def plainN (n : Int) : Bool := smallN n || digitN n

theorem plain_spec (n : Int) : ESpec Tryd.prog 72 [.d (.s (.int .u8 n))] (fun x => x = .d (.s (.bool (plainN n)))) := by
  obtain ⟨z, hz⟩ : ∃ z, z = plainN n := ⟨_, rfl⟩
  rw [← hz]
  unfold plainN smallN digitN at hz
  refine ESpec.enter Tryd.func72 (by kernel_rfl) rfl (Nat.le_of_ble_eq_true rfl) fun _ cx hnt hfr => ?_
  obtain ⟨F, hF⟩ := real_ex
  refine AK.run hF tabOK hnt ?_
  conv => arg 4; cbv
  have second : ∀ (w : Bool), (F .leI 48 n = true → w = F .leI n 57) → (F .leI 48 n = false → w = false) → (decide (48 ≤ n) && decide (n ≤ 57)) = w := by
    intro w h1 h2
    rw [l_leI hF, l_leI hF] at *
    cases h : decide (48 ≤ n)
    · rw [h2 h]; rfl
    · rw [h1 h]; rfl
  cases h1 : F .leI 97 n
  case' true =>
    conv => arg 4; cbv
    cases h2 : F .leI n 122
    case' true =>
      conv => arg 4; cbv
      rw [show z = true by rw [hz, decide_eq_true (leI1 hF h1), decide_eq_true (leI1 hF h2)]; rfl]
      exact AKp.doneE tabOK hfr (by rfl) (by rfl)
  all_goals
    conv => arg 4; cbv
    cases h3 : F .leI 48 n
    · conv => arg 4; cbv
      first
        | rw [show z = false by rw [hz, decide_eq_false (leI0 hF h1), decide_eq_false (leI0 hF h3)]; rfl]
        | rw [show z = false by rw [hz, decide_eq_false (leI0 hF h2), decide_eq_false (leI0 hF h3), Bool.and_false]; rfl]
      exact AKp.doneE tabOK hfr (by rfl) (by rfl)
    · conv => arg 4; cbv
      first
        | rw [show F .leI n 57 = z by rw [hz, decide_eq_false (leI0 hF h1), decide_eq_true (leI1 hF h3), l_leI hF]; rfl]
        | rw [show F .leI n 57 = z by rw [hz, decide_eq_false (leI0 hF h2), decide_eq_true (leI1 hF h3), l_leI hF, Bool.and_false]; rfl]
      exact AKp.doneE tabOK hfr (by rfl) (by rfl)

theorem ib_le : ∀ (l : List UInt8) (c : UInt8), Lib.indexByte l c ≤ l.length
  | [], c => by simp [Lib.indexByte]
  | b :: l, c => by
    have := ib_le l c
    unfold Lib.indexByte
    split
    · simp; omega
    · split
      · simp; omega
      · simp; omega

theorem IndexByte_spec (s : List UInt8) (c : UInt8) : ESpec Tryd.prog 85 [.d (.s (.str s)), .d (.s (.int .u8 c.toNat))] (fun x => x = .d (.s (.int .i64 (Lib.indexByte s c)))) := by
  have base : s.length ≤ maxLen → ESpec Tryd.prog 85 [.d (.s (.str s)), .d (.s (.int .u8 c.toNat))] (fun x => x = .d (.s (.int .i64 (Lib.indexByte s c)))) := by
    intro hs
    have hok : (Sc.int .i64 (Lib.indexByte s c)).ok := by
      have h1 := Lib.indexByte_ge s c
      have h2 := ib_le s c
      have hm : maxLen = 9223372036854775807 := by decide
      exact ⟨by show (-9223372036854775808 : Int) ≤ _; omega, by show _ ≤ (9223372036854775807 : Int); omega⟩
    refine ESpec.grown (enters_of Tryd.func85 (by kernel_rfl) rfl) hok fun R ι vs w hR hG hl hr => ?_
    obtain ⟨v0, v1, rfl⟩ : ∃ v0 v1, vs = [v0, v1] := by
      match vs, hl with
      | [v0, v1], _ => exact ⟨v0, v1, rfl⟩
    obtain rfl := rep_s (hr 0 _ _ rfl rfl)
    obtain rfl := rep_s (hr 1 _ _ rfl rfl)
    refine (Tryd.strings_IndexByte ⟨s.toArray⟩ c.toNat w).mono ?_
    rintro e w' ⟨rfl, rfl⟩
    refine ⟨?_, RowKit.Below.refl _ _⟩
    simp [Sc.val]
  refine ⟨enters_of Tryd.func85 (by kernel_rfl) rfl, fun X L w ι vs h1 hg h2 h3 => (base ?_).2 X L w ι vs h1 hg h2 h3⟩
  match vs, h2 with
  | [v0, v1], _ => exact rep_ok (h3 0 _ _ rfl rfl)
end Go.Proofs.YtljidkmppeaecaaDoor

/- Names and words, as the program tells them. -/
namespace Go.Proofs.YtljidkmppeaecaaDoor
open Go Go.Proofs Go.Ua Go.Extern
set_option linter.unusedVariables false
set_option linter.unusedSimpArgs false

theorem ib_neg : ∀ (l : List UInt8) (c : UInt8), decide (Lib.indexByte l c < 0) = !l.contains c
  | [], c => by simp [Lib.indexByte]
  | b :: l, c => by
    have h := ib_neg l c
    have h1 := Lib.indexByte_ge l c
    unfold Lib.indexByte
    by_cases e : b = c
    · subst e
      simp
    · rw [if_neg (by simpa using e)]
      have e2 : (b :: l).contains c = l.contains c := by
        simp [List.contains_cons]
        intro h
        exact absurd h.symm e
      rw [e2, ← h]
      by_cases e3 : Lib.indexByte l c = -1
      · rw [if_pos (by simp [e3]), e3]
      · rw [if_neg (by simpa using e3)]
        have : ¬ Lib.indexByte l c < 0 := by omega
        have : ¬ Lib.indexByte l c + 1 < 0 := by omega
        simp [*]

def marks : List UInt8 := [46, 95, 58, 47, 64, 45]
def wordB (c : UInt8) : Bool := plainN c.toNat || greatN c.toNat || marks.contains c
def wordF (w : List UInt8) : Bool := !(w == []) && decide (w.length ≤ 64) && !(w == [45]) && w.all wordB

theorem all_take_succ {α : Type} {p : α → Bool} {l : List α} {i : Nat} {c : α} (h : l[i]? = some c) (ht : (l.take i).all p = true) (hc : p c = true) : (l.take (i + 1)).all p = true := by
  rw [List.take_add_one, h]
  simp [ht, hc]
theorem all_false {α : Type} {p : α → Bool} {l : List α} {i : Nat} {c : α} (h : l[i]? = some c) (hc : p c = false) : l.all p = false := by
  rw [List.all_eq_false]
  exact ⟨c, List.mem_of_getElem? h, by simp [hc]⟩

theorem Word_spec (w : List UInt8) : ESpec Tryd.prog 80 [.d (.s (.str w))] (fun x => x = .d (.s (.bool (wordF w)))) := by
  obtain ⟨z, hz⟩ : ∃ z, z = wordF w := ⟨_, rfl⟩
  rw [← hz]
  unfold wordF at hz
  refine ESpec.enter Tryd.func80 (by kernel_rfl) rfl (Nat.le_of_ble_eq_true rfl) fun hok cx hnt hfr => ?_
  have hwl : w.length ≤ maxLen := hok.1
  have hm : maxLen = 9223372036854775807 := by decide
  obtain ⟨F, hF⟩ := real_ex
  refine AK.run hF tabOK hnt ?_
  conv => arg 4; cbv
  cases h1 : F .eqS w []
  case' true =>
    conv => arg 4; cbv
    rw [show z = false by rw [hz, eqS1 hF h1]; rfl]
    exact AKp.doneE tabOK hfr (by rfl) (by rfl)
  case' false =>
  conv => arg 4; cbv
  cases h2 : F .ltI 64 (F .lenS w)
  case' true =>
    have h2' := ltI1 hF h2
    rw [l_lenS hF] at h2'
    conv => arg 4; cbv
    rw [show z = false by rw [hz, decide_eq_false (show ¬ w.length ≤ 64 by omega)]; simp]
    exact AKp.doneE tabOK hfr (by rfl) (by rfl)
  case' false =>
  have h2' := ltI0 hF h2
  rw [l_lenS hF] at h2'
  conv => arg 4; cbv
  cases h3 : F .eqS w [45]
  case' true =>
    conv => arg 4; cbv
    rw [show z = false by rw [hz, eqS1 hF h3]; rfl]
    exact AKp.doneE tabOK hfr (by rfl) (by rfl)
  case' false =>
  have hz2 : z = w.all wordB := by
    rw [hz, decide_eq_true (show w.length ≤ 64 by omega)]
    have e1 : (w == []) = false := by simpa using eqS0 hF h1
    have e2 : (w == [45]) = false := by simpa using eqS0 hF h3
    rw [e1, e2]; simp
  conv => arg 4; cbv
  refine AKp.enterLoop 18 ?_
  conv => arg 7; cbv
  refine AKl.inv hF tabOK hnt hfr (fun n vs hs => ∃ (i : Nat) (iv : Int), i + n = w.length ∧ iv = i ∧ (w.take i).all wordB = true ∧ vs = [(18, .d (.s (.int .i64 iv)))] ∧ hs = []) w.length
    ⟨0, _, by omega, rfl, by simp, rfl, rfl⟩ (by repeat (first | exact True.intro | refine ⟨⟨rfl, rfl⟩, ?_⟩)) (by repeat (first | exact True.intro | refine ⟨⟨rfl, rfl, rfl⟩, ?_⟩)) ?_
  rintro J n vs hs hJ ⟨i, iv, hi, hiv, hall, rfl, rfl⟩
  conv => arg 4; cbv
  cases hb : F .ltI iv (F .lenS w)
  case' false =>
    have hlt := ltI0 hF hb
    rw [l_lenS hF] at hlt
    conv => arg 4; cbv
    rw [show z = true by rw [hz2, ← hall, List.take_of_length_le (by omega)]]
    exact AKp.doneE tabOK hfr (by rfl) (by rfl)
  case' true =>
    have hlt := ltI1 hF hb
    rw [l_lenS hF] at hlt
    have hil : i < w.length := by omega
    obtain ⟨c, hc⟩ : ∃ c, w[i]? = some c := ⟨_, List.getElem?_eq_getElem hil⟩
    have sp := plain_spec c.toNat
    have si := IndexByte_spec [46, 95, 58, 47, 64, 45] c
    have hib : decide (Lib.indexByte [46, 95, 58, 47, 64, 45] c < 0) = !marks.contains c := ib_neg _ c
    have hg := l_getS hF hc hiv
    obtain ⟨wb, hwb⟩ : ∃ z, z = wordB c := ⟨_, rfl⟩
    unfold wordB at hwb
    obtain ⟨cv, hcv⟩ : ∃ z : Int, z = c.toNat := ⟨_, rfl⟩
    obtain ⟨ix, hix⟩ : ∃ z : Int, z = Lib.indexByte [46, 95, 58, 47, 64, 45] c := ⟨_, rfl⟩
    obtain ⟨pb, hpb⟩ : ∃ z, z = plainN c.toNat := ⟨_, rfl⟩
    rw [← hpb] at sp hwb
    rw [← hcv] at sp si hg hwb
    rw [← hix] at si hib
    have hnext : wb = true → (w.take (i + 1)).all wordB = true := fun h => all_take_succ hc hall (by rw [← h, hwb, hpb, hcv]; rfl)
    have hend : wb = false → z = false := fun h => by rw [hz2]; exact all_false hc (by rw [← h, hwb, hpb, hcv]; rfl)
    conv => arg 4; cbv
    rw [hg]
    conv => arg 4; cbv
    refine AKp.call hF tabOK hnt sp rfl rfl rfl rfl rfl rfl rfl (by repeat' first | exact .refl _ | constructor) ?_
    rintro _ rfl
    conv => arg 4; cbv
    cases pb
    case' true =>
      rw [l_not1 hF]
      conv => arg 4; cbv
      refine AKp.again _ hfr (by repeat (first | exact True.intro | refine ⟨⟨rfl, rfl⟩, ?_⟩)) (by repeat (first | exact True.intro | refine ⟨⟨rfl, rfl, rfl⟩, ?_⟩)) (hJ (n - 1) _ _ (by omega) ⟨i + 1, _, by omega, inc_i hF hiv (by omega), hnext (by rw [hwb]; rfl), rfl, rfl⟩)
    case' false =>
      rw [l_not0 hF]
      conv => arg 4; cbv
      have last : ∀ g : Bool, greatN cv = false → wb = marks.contains c := fun _ h => by rw [hwb, h]; rfl
      cases h5 : F .ltI cv 65
      case' false =>
        conv => arg 4; cbv
        cases h6 : F .ltI 90 cv
        case' false =>
          conv => arg 4; cbv
          refine AKp.again _ hfr (by repeat (first | exact True.intro | refine ⟨⟨rfl, rfl⟩, ?_⟩)) (by repeat (first | exact True.intro | refine ⟨⟨rfl, rfl, rfl⟩, ?_⟩)) (hJ (n - 1) _ _ (by omega) ⟨i + 1, _, by omega, inc_i hF hiv (by omega), hnext (by
            have g1 := ltI0 hF h5
            have g2 := ltI0 hF h6
            rw [hwb, greatN, decide_eq_true (show 65 ≤ cv by omega), decide_eq_true (show cv ≤ 90 by omega)]; rfl), rfl, rfl⟩)
        case' true =>
          have hgr : greatN cv = false := by
            have g2 := ltI1 hF h6
            rw [greatN, decide_eq_false (show ¬ cv ≤ 90 by omega), Bool.and_false]
      case' true =>
        have hgr : greatN cv = false := by
          have g2 := ltI1 hF h5
          rw [greatN, decide_eq_false (show ¬ 65 ≤ cv by omega)]; rfl
      all_goals
        conv => arg 4; cbv
        refine AKp.call hF tabOK hnt si rfl rfl rfl rfl rfl rfl rfl (by repeat' first | exact .refl _ | constructor) ?_
        rintro _ rfl
        conv => arg 4; cbv
        have hw2 := last true hgr
        cases h7 : F .ltI ix 0
        · have h7' := ltI0 hF h7
          rw [decide_eq_false h7'] at hib
          conv => arg 4; cbv
          have hx : marks.contains c = true := by
            generalize marks.contains c = x at hib ⊢
            cases x
            · exact absurd hib (by decide)
            · rfl
          refine AKp.again _ hfr (by repeat (first | exact True.intro | refine ⟨⟨rfl, rfl⟩, ?_⟩)) (by repeat (first | exact True.intro | refine ⟨⟨rfl, rfl, rfl⟩, ?_⟩)) (hJ (n - 1) _ _ (by omega) ⟨i + 1, _, by omega, inc_i hF hiv (by omega), hnext (by rw [hw2]; exact hx), rfl, rfl⟩)
        · have h7' := ltI1 hF h7
          rw [decide_eq_true h7'] at hib
          conv => arg 4; cbv
          have hx : marks.contains c = false := by
            generalize marks.contains c = x at hib ⊢
            cases x
            · rfl
            · exact absurd hib (by decide)
          rw [hend (by rw [hw2]; exact hx)]
          exact AKp.doneE tabOK hfr (by rfl) (by rfl)
end Go.Proofs.YtljidkmppeaecaaDoor

/- Names; numbers. -/
namespace Go.Proofs.YtljidkmppeaecaaDoor
open Go Go.Proofs Go.Ua Go.Extern
set_option linter.unusedVariables false
set_option linter.unusedSimpArgs false

def nameB (c : UInt8) : Bool := plainN c.toNat || ((c.toNat : Int) == 45)
def nameF (w : List UInt8) : Bool := match w with
  | [] => false
  | c :: _ => decide (w.length ≤ 32) && smallN c.toNat && w.all nameB

theorem Name_spec (w : List UInt8) : ESpec Tryd.prog 63 [.d (.s (.str w))] (fun x => x = .d (.s (.bool (nameF w)))) := by
  obtain ⟨z, hz⟩ : ∃ z, z = nameF w := ⟨_, rfl⟩
  rw [← hz]
  refine ESpec.enter Tryd.func63 (by kernel_rfl) rfl (Nat.le_of_ble_eq_true rfl) fun hok cx hnt hfr => ?_
  have hwl : w.length ≤ maxLen := hok.1
  have hm : maxLen = 9223372036854775807 := by decide
  obtain ⟨F, hF⟩ := real_ex
  refine AK.run hF tabOK hnt ?_
  conv => arg 4; cbv
  cases h1 : F .eqS w []
  case' true =>
    conv => arg 4; cbv
    rw [show z = false by rw [hz, eqS1 hF h1]; rfl]
    exact AKp.doneE tabOK hfr (by rfl) (by rfl)
  case' false =>
  have hne := eqS0 hF h1
  obtain ⟨c0, w0, hw0⟩ : ∃ c r, w = c :: r := by
    cases w with
    | nil => exact absurd rfl hne
    | cons c r => exact ⟨c, r, rfl⟩
  have hz1 : z = (decide (w.length ≤ 32) && smallN c0.toNat && w.all nameB) := by rw [hz, hw0]; rfl
  have hg0 := l_getS hF (s := w) (i := 0) (c := c0) (iv := 0) (by rw [hw0]; rfl) rfl
  obtain ⟨c0v, hc0v⟩ : ∃ z : Int, z = c0.toNat := ⟨_, rfl⟩
  rw [← hc0v] at hz1 hg0
  unfold smallN at hz1
  conv => arg 4; cbv
  cases h2 : F .ltI 32 (F .lenS w)
  case' true =>
    have h2' := ltI1 hF h2
    rw [l_lenS hF] at h2'
    conv => arg 4; cbv
    rw [show z = false by rw [hz1, decide_eq_false (show ¬ w.length ≤ 32 by omega)]; simp]
    exact AKp.doneE tabOK hfr (by rfl) (by rfl)
  case' false =>
  have h2' := ltI0 hF h2
  rw [l_lenS hF] at h2'
  conv => arg 4; cbv
  rw [hg0]
  conv => arg 4; cbv
  cases h3 : F .ltI c0v 97
  case' true =>
    have h3' := ltI1 hF h3
    conv => arg 4; cbv
    rw [show z = false by rw [hz1, decide_eq_false (show ¬ 97 ≤ c0v by omega)]; simp]
    exact AKp.doneE tabOK hfr (by rfl) (by rfl)
  case' false =>
  have h3' := ltI0 hF h3
  conv => arg 4; cbv
  rw [hg0]
  conv => arg 4; cbv
  cases h4 : F .ltI 122 c0v
  case' true =>
    have h4' := ltI1 hF h4
    conv => arg 4; cbv
    rw [show z = false by rw [hz1, decide_eq_false (show ¬ c0v ≤ 122 by omega)]; simp]
    exact AKp.doneE tabOK hfr (by rfl) (by rfl)
  case' false =>
  have h4' := ltI0 hF h4
  have hz2 : z = w.all nameB := by
    rw [hz1, decide_eq_true (show w.length ≤ 32 by omega), decide_eq_true (show 97 ≤ c0v by omega), decide_eq_true (show c0v ≤ 122 by omega)]
    simp
  conv => arg 4; cbv
  refine AKp.enterLoop 23 ?_
  conv => arg 7; cbv
  refine AKl.inv hF tabOK hnt hfr (fun n vs hs => ∃ (i : Nat) (iv : Int), i + n = w.length ∧ iv = i ∧ (w.take i).all nameB = true ∧ vs = [(23, .d (.s (.int .i64 iv)))] ∧ hs = []) w.length
    ⟨0, _, by omega, rfl, by simp, rfl, rfl⟩ (by repeat (first | exact True.intro | refine ⟨⟨rfl, rfl⟩, ?_⟩)) (by repeat (first | exact True.intro | refine ⟨⟨rfl, rfl, rfl⟩, ?_⟩)) ?_
  rintro J n vs hs hJ ⟨i, iv, hi, hiv, hall, rfl, rfl⟩
  conv => arg 4; cbv
  cases hb : F .ltI iv (F .lenS w)
  case' false =>
    have hlt := ltI0 hF hb
    rw [l_lenS hF] at hlt
    conv => arg 4; cbv
    rw [show z = true by rw [hz2, ← hall, List.take_of_length_le (by omega)]]
    exact AKp.doneE tabOK hfr (by rfl) (by rfl)
  case' true =>
    have hlt := ltI1 hF hb
    rw [l_lenS hF] at hlt
    have hil : i < w.length := by omega
    obtain ⟨c, hc⟩ : ∃ c, w[i]? = some c := ⟨_, List.getElem?_eq_getElem hil⟩
    have sp := plain_spec c.toNat
    have hg := l_getS hF hc hiv
    obtain ⟨wb, hwb⟩ : ∃ z, z = nameB c := ⟨_, rfl⟩
    unfold nameB at hwb
    obtain ⟨cv, hcv⟩ : ∃ z : Int, z = c.toNat := ⟨_, rfl⟩
    obtain ⟨pb, hpb⟩ : ∃ z, z = plainN c.toNat := ⟨_, rfl⟩
    rw [← hpb] at sp hwb
    rw [← hcv] at sp hg hwb
    have hnext : wb = true → (w.take (i + 1)).all nameB = true := fun h => all_take_succ hc hall (by rw [← h, hwb, hpb, hcv]; rfl)
    have hend : wb = false → z = false := fun h => by rw [hz2]; exact all_false hc (by rw [← h, hwb, hpb, hcv]; rfl)
    conv => arg 4; cbv
    rw [hg]
    conv => arg 4; cbv
    refine AKp.call hF tabOK hnt sp rfl rfl rfl rfl rfl rfl rfl (by repeat' first | exact .refl _ | constructor) ?_
    rintro _ rfl
    conv => arg 4; cbv
    cases pb
    case' true =>
      rw [l_not1 hF]
      conv => arg 4; cbv
      refine AKp.again _ hfr (by repeat (first | exact True.intro | refine ⟨⟨rfl, rfl⟩, ?_⟩)) (by repeat (first | exact True.intro | refine ⟨⟨rfl, rfl, rfl⟩, ?_⟩)) (hJ (n - 1) _ _ (by omega) ⟨i + 1, _, by omega, inc_i hF hiv (by omega), hnext (by rw [hwb]; rfl), rfl, rfl⟩)
    case' false =>
      rw [l_not0 hF]
      conv => arg 4; cbv
      rw [hg]
      conv => arg 4; cbv
      cases h5 : F .eqI cv 45
      case' false =>
        have h5' := eqI0 hF h5
        rw [l_not0 hF]
        conv => arg 4; cbv
        rw [hend (by rw [hwb]; simp [h5'])]
        exact AKp.doneE tabOK hfr (by rfl) (by rfl)
      case' true =>
        have h5' := eqI1 hF h5
        rw [l_not1 hF]
        conv => arg 4; cbv
        refine AKp.again _ hfr (by repeat (first | exact True.intro | refine ⟨⟨rfl, rfl⟩, ?_⟩)) (by repeat (first | exact True.intro | refine ⟨⟨rfl, rfl, rfl⟩, ?_⟩)) (hJ (n - 1) _ _ (by omega) ⟨i + 1, _, by omega, inc_i hF hiv (by omega), hnext (by rw [hwb, h5']; rfl), rfl, rfl⟩)
end Go.Proofs.YtljidkmppeaecaaDoor

/- Numbers. -/
namespace Go.Proofs.YtljidkmppeaecaaDoor
open Go Go.Proofs Go.Ua Go.Extern
set_option linter.unusedVariables false
set_option linter.unusedSimpArgs false

def digB (c : UInt8) : Bool := digitN c.toNat
def valN (w : List UInt8) : Nat := w.foldl (fun n c => 10 * n + (c.toNat - 48)) 0
/-- It has a number's form. -/
def numForm (w : List UInt8) : Bool := decide (1 ≤ w.length) && decide (w.length ≤ 9) && !(decide (1 < w.length) && decide (w[0]? = some 48)) && w.all digB
def numberF (w : List UInt8) (least most : Int) : Option Int := if numForm w = true ∧ least ≤ (valN w : Int) ∧ (valN w : Int) ≤ most then some (valN w : Int) else none
def optAV : Option Int → AV
  | some n => .tup [.d (.s (.int .i64 n)), .d (.s (.bool true))]
  | none => .tup [.d (.s (.int .i64 0)), .d (.s (.bool false))]

theorem valN_take {w : List UInt8} {i : Nat} {c : UInt8} (h : w[i]? = some c) : valN (w.take (i + 1)) = 10 * valN (w.take i) + (c.toNat - 48) := by
  rw [List.take_add_one, h]
  simp [valN, List.foldl_append]
theorem digB_le {c : UInt8} (h : digB c = true) : 48 ≤ c.toNat ∧ c.toNat ≤ 57 := by
  unfold digB digitN at h
  simp only [Bool.and_eq_true, decide_eq_true_eq] at h
  omega
theorem valN_lt {w : List UInt8} : ∀ (i : Nat), i ≤ w.length → (w.take i).all digB = true → valN (w.take i) < 10 ^ i := by
  intro i
  induction i with
  | zero => intro _ _; simp [valN]
  | succ i ih =>
    intro hi hall
    obtain ⟨c, hc⟩ : ∃ c, w[i]? = some c := ⟨_, List.getElem?_eq_getElem (by omega)⟩
    rw [List.take_add_one, hc] at hall
    simp only [Option.toList_some, List.all_append, Bool.and_eq_true, List.all_cons, List.all_nil, Bool.and_true] at hall
    have := ih (by omega) hall.1
    have h2 := digB_le hall.2
    rw [valN_take hc, Nat.pow_succ]
    omega

theorem Number_spec (w : List UInt8) (least most : Int) : ESpec Tryd.prog 48 [.d (.s (.str w)), .d (.s (.int .i64 least)), .d (.s (.int .i64 most))] (fun x => x = optAV (numberF w least most)) := by
  obtain ⟨z, hz⟩ : ∃ z, z = optAV (numberF w least most) := ⟨_, rfl⟩
  rw [← hz]
  refine ESpec.enter Tryd.func48 (by kernel_rfl) rfl (Nat.le_of_ble_eq_true rfl) fun hok cx hnt hfr => ?_
  have hwl : w.length ≤ maxLen := hok.1
  have hm : maxLen = 9223372036854775807 := by decide
  have bad : numForm w = false → z = .tup [.d (.s (.int .i64 0)), .d (.s (.bool false))] := fun h => by rw [hz, numberF, if_neg (by rw [h]; simp)]; rfl
  obtain ⟨F, hF⟩ := real_ex
  refine AK.run hF tabOK hnt ?_
  conv => arg 4; cbv
  cases h1 : F .ltI (F .lenS w) 1
  case' true =>
    have h1' := ltI1 hF h1
    rw [l_lenS hF] at h1'
    conv => arg 4; cbv
    rw [bad (by unfold numForm; rw [decide_eq_false (show ¬ 1 ≤ w.length by omega)]; rfl)]
    exact AKp.doneE tabOK hfr (by rfl) (by rfl)
  case' false =>
  have h1' := ltI0 hF h1
  rw [l_lenS hF] at h1'
  conv => arg 4; cbv
  cases h2 : F .ltI 9 (F .lenS w)
  case' true =>
    have h2' := ltI1 hF h2
    rw [l_lenS hF] at h2'
    conv => arg 4; cbv
    rw [bad (by unfold numForm; rw [decide_eq_false (show ¬ w.length ≤ 9 by omega)]; simp)]
    exact AKp.doneE tabOK hfr (by rfl) (by rfl)
  case' false =>
  have h2' := ltI0 hF h2
  rw [l_lenS hF] at h2'
  obtain ⟨c0, hc0⟩ : ∃ c, w[0]? = some c := ⟨_, List.getElem?_eq_getElem (by omega)⟩
  have hg0 := l_getS hF (iv := 0) hc0 rfl
  obtain ⟨c0v, hc0v⟩ : ∃ z : Int, z = c0.toNat := ⟨_, rfl⟩
  rw [← hc0v] at hg0
  conv => arg 4; cbv
  -- the first byte
  have lead : ¬ (1 < w.length ∧ w[0]? = some 48) → numForm w = w.all digB := by
    intro h
    unfold numForm
    rw [decide_eq_true (show 1 ≤ w.length by omega), decide_eq_true (show w.length ≤ 9 by omega)]
    have : (decide (1 < w.length) && decide (w[0]? = some 48)) = false := by
      rw [← Bool.decide_and]; exact decide_eq_false h
    rw [this]; simp
  cases h3 : F .ltI 1 (F .lenS w)
  case' true =>
    have h3' := ltI1 hF h3
    rw [l_lenS hF] at h3'
    conv => arg 4; cbv
    rw [hg0]
    conv => arg 4; cbv
    cases h4 : F .eqI c0v 48
    case' true =>
      have h4' := eqI1 hF h4
      conv => arg 4; cbv
      rw [bad (by
        unfold numForm
        have e : c0 = 48 := UInt8.toNat_inj.1 (by rw [hc0v] at h4'; simp; omega)
        rw [hc0, e, decide_eq_true (show 1 < w.length by omega)]; simp)]
      exact AKp.doneE tabOK hfr (by rfl) (by rfl)
    case' false =>
    have h4' := eqI0 hF h4
    have hlead := lead (by
      rintro ⟨_, h⟩
      rw [hc0] at h
      cases h
      exact h4' (by rw [hc0v]; rfl))
  case' false =>
    have h3' := ltI0 hF h3
    rw [l_lenS hF] at h3'
    have hlead := lead (by rintro ⟨h, _⟩; omega)
  all_goals
    conv => arg 4; cbv
    refine AKp.enterLoop 30 ?_
    conv => arg 7; cbv
    refine AKl.inv hF tabOK hnt hfr (fun n vs hs => ∃ (i : Nat) (iv nv : Int), i + n = w.length ∧ iv = i ∧ nv = (valN (w.take i) : Nat) ∧ (w.take i).all digB = true ∧ vs = [(30, .d (.s (.int .i64 iv))), (8, .d (.s (.int .i64 nv)))] ∧ hs = []) w.length
      ⟨0, _, 0, by omega, rfl, by simp [valN], by simp, rfl, rfl⟩ (by repeat (first | exact True.intro | refine ⟨⟨rfl, rfl⟩, ?_⟩)) (by repeat (first | exact True.intro | refine ⟨⟨rfl, rfl, rfl⟩, ?_⟩)) ?_
    rintro J n vs hs hJ ⟨i, iv, nv, hi, hiv, hnv, hall, rfl, rfl⟩
    have hvl := valN_lt i (by omega) hall
    have hp9 : 10 ^ i ≤ 10 ^ 9 := Nat.pow_le_pow_right (by decide) (by omega)
    conv => arg 4; cbv
    cases hb : F .ltI iv (F .lenS w)
    case' false =>
      have hlt := ltI0 hF hb
      rw [l_lenS hF] at hlt
      have htk : w.take i = w := List.take_of_length_le (by omega)
      rw [htk] at hnv hall
      rw [hall] at hlead
      conv => arg 4; cbv
      cases h5 : F .ltI nv least
      case' true =>
        have h5' := ltI1 hF h5
        conv => arg 4; cbv
        rw [show z = .tup [.d (.s (.int .i64 0)), .d (.s (.bool false))] by rw [hz, numberF, if_neg (by rintro ⟨_, h, _⟩; omega)]; rfl]
        exact AKp.doneE tabOK hfr (by rfl) (by rfl)
      case' false =>
      have h5' := ltI0 hF h5
      conv => arg 4; cbv
      cases h6 : F .ltI most nv
      case' true =>
        have h6' := ltI1 hF h6
        conv => arg 4; cbv
        rw [show z = .tup [.d (.s (.int .i64 0)), .d (.s (.bool false))] by rw [hz, numberF, if_neg (by rintro ⟨_, _, h⟩; omega)]; rfl]
        exact AKp.doneE tabOK hfr (by rfl) (by rfl)
      case' false =>
      have h6' := ltI0 hF h6
      conv => arg 4; cbv
      rw [show z = .tup [.d (.s (.int .i64 nv)), .d (.s (.bool true))] by rw [hz, numberF, if_pos ⟨hlead, by omega, by omega⟩, ← hnv]; rfl]
      exact AKp.doneE tabOK hfr (by rfl) (by rfl)
    case' true =>
      have hlt := ltI1 hF hb
      rw [l_lenS hF] at hlt
      have hil : i < w.length := by omega
      obtain ⟨c, hc⟩ : ∃ c, w[i]? = some c := ⟨_, List.getElem?_eq_getElem hil⟩
      have hg := l_getS hF hc hiv
      have hvt := valN_take hc
      have hend : digB c = false → numForm w = false := fun h => by rw [hlead]; exact all_false hc h
      have hnext : digB c = true → (w.take (i + 1)).all digB = true := fun h => all_take_succ hc hall h
      unfold digB digitN at hend hnext
      obtain ⟨cv, hcv⟩ : ∃ z : Int, z = c.toNat := ⟨_, rfl⟩
      rw [← hcv] at hg hend hnext
      conv => arg 4; cbv
      rw [hg]
      conv => arg 4; cbv
      cases h5 : F .ltI cv 48
      case' true =>
        have h5' := ltI1 hF h5
        conv => arg 4; cbv
        rw [bad (hend (by rw [decide_eq_false (show ¬ 48 ≤ cv by omega)]; rfl))]
        exact AKp.doneE tabOK hfr (by rfl) (by rfl)
      case' false =>
      have h5' := ltI0 hF h5
      conv => arg 4; cbv
      rw [hg]
      conv => arg 4; cbv
      cases h6 : F .ltI 57 cv
      case' true =>
        have h6' := ltI1 hF h6
        conv => arg 4; cbv
        rw [bad (hend (by rw [decide_eq_false (show ¬ cv ≤ 57 by omega)]; simp))]
        exact AKp.doneE tabOK hfr (by rfl) (by rfl)
      case' false =>
      have h6' := ltI0 hF h6
      conv => arg 4; cbv
      rw [hg]
      conv => arg 4; cbv
      refine AKp.again _ hfr (by repeat (first | exact True.intro | refine ⟨⟨rfl, rfl⟩, ?_⟩)) (by repeat (first | exact True.intro | refine ⟨⟨rfl, rfl, rfl⟩, ?_⟩)) (hJ (n - 1) _ _ (by omega) ⟨i + 1, _, _, by omega, inc_i hF hiv (by omega), ?_, hnext (by rw [decide_eq_true (show 48 ≤ cv by omega), decide_eq_true (show cv ≤ 57 by omega)]; rfl), rfl, rfl⟩)
      rw [hvt, hF]
      show IntKind.i64.wrap (IntKind.i64.wrap (10 * nv) + IntKind.i64.wrap (IntKind.u8.wrap (cv - 48))) = _
      have hcv2 : cv ≤ 57 := by omega
      rw [w_u8 (by omega) (by omega), w_i64 (n := cv - 48) (by omega) (by omega), w_i64 (n := 10 * nv) (by omega) (by omega), w_i64 (by omega) (by omega)]
      omega
end Go.Proofs.YtljidkmppeaecaaDoor

