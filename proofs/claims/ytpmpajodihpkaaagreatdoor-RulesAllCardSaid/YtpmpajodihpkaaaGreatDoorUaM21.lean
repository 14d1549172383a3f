/- The library of this claim and its walks, part 21, joined out of smaller texts. No statement stands in it. -/
import Derived.Test.YtpmpajodihpkaaaGreatDoorUaM20
import Derived.Shelf.Strings.Builder1
import Derived.Shelf.Strings.Builder2
import Derived.Shelf.Strings.OnBuilder
import Derived.Shelf.Small.Strs
import Derived.Shelf.Strings.BuilderF
import Derived.Shelf.Strings.BuilderK
import Derived.Shelf.Strings.Builder2Cap
import Derived.Shelf.Strings.Search1
import Derived.Shelf.Strings.BuilderCap
import Derived.Shelf.Slices.Turned
import Derived.Test.YtpmpajodihpkaaaGreatDoorProg
set_option linter.unusedSimpArgs false
set_option linter.unusedVariables false
namespace Go.Proofs
open Go.Shelf
def Tryz.lays156_ren : Go.Shelf.Ren := ⟨fun | 156 => 65 | 165 => 74 | 166 => 75 | 169 => 76 | 240 => 82 | 241 => 83 | 276 => 86 | 277 => 87 | n => n, fun | 31 => 44 | 9 => 9 | 3 => 3 | 4 => 4 | 0 => 0 | 20 => 20 | 72 => 137 | 76 => 139 | 70 => 134 | 37 => 135 | 75 => 31 | 127 => 144 | 164 => 83 | 5 => 5 | 80 => 141 | n => n, fun | n => n⟩
theorem Tryz.lays156 : Go.Proofs.Lays.n156 Tryz.prog Tryz.lays156_ren := {
 mixed := by kernel_rfl
 f156 := Tryz.func65.trans (congrArg some (by kernel_rfl))
 f165 := Tryz.func74.trans (congrArg some (by kernel_rfl))
 f166 := Tryz.func75.trans (congrArg some (by kernel_rfl))
 f169 := Tryz.func76.trans (congrArg some (by kernel_rfl))
 f240 := Tryz.func82.trans (congrArg some (by kernel_rfl))
 f241 := Tryz.func83.trans (congrArg some (by kernel_rfl))
 f276 := Tryz.func86.trans (congrArg some (by kernel_rfl))
 f277 := Tryz.func87.trans (congrArg some (by kernel_rfl))
 t0 := Tryz.underlying0
 a0 := Tryz.isAgg0
 z0 := Tryz.sizeOf0
 v0 := Tryz.zeroValue0
 t3 := Tryz.underlying3
 a3 := Tryz.isAgg3
 z3 := Tryz.sizeOf3
 v3 := Tryz.zeroValue3
 t4 := Tryz.underlying4
 a4 := Tryz.isAgg4
 z4 := Tryz.sizeOf4
 v4 := Tryz.zeroValue4
 t9 := Tryz.underlying9
 a9 := Tryz.isAgg9
 z9 := Tryz.sizeOf9
 v9 := Tryz.zeroValue9
 t20 := Tryz.underlying20
 a20 := Tryz.isAgg20
 z20 := Tryz.sizeOf20
 v20 := Tryz.zeroValue20
 t31 := Tryz.underlying44
 a31 := Tryz.isAgg44
 z31 := Tryz.sizeOf44
 v31 := Tryz.zeroValue44
 t37 := Tryz.underlying135
 a37 := Tryz.isAgg135
 z37 := Tryz.sizeOf135
 v37 := Tryz.zeroValue135
 t70 := Tryz.underlying134
 a70 := Tryz.isAgg134
 z70 := Tryz.sizeOf134
 v70 := Tryz.zeroValue134
 t72 := Tryz.underlying137
 a72 := Tryz.isAgg137
 z72 := Tryz.sizeOf137
 v72 := Tryz.zeroValue137
 t75 := Tryz.underlying31
 a75 := Tryz.isAgg31
 z75 := Tryz.sizeOf31
 v75 := Tryz.zeroValue31
 t76 := Tryz.underlying139
 a76 := Tryz.isAgg139
 z76 := Tryz.sizeOf139
 v76 := Tryz.zeroValue139
 t127 := Tryz.underlying144
 a127 := Tryz.isAgg144
 z127 := Tryz.sizeOf144
 v127 := Tryz.zeroValue144
 t164 := Tryz.underlying83
 a164 := Tryz.isAgg83
 z164 := Tryz.sizeOf83
 v164 := Tryz.zeroValue83 }
theorem Tryz.Builder_Extra_156 : Builder.Extra Tryz.prog Tryz.lays156_ren := {
 sizeBuilder := by kernel_rfl
 liesBuilder := by kernel_rfl
 t5 := Tryz.underlying5
 a5 := Tryz.isAgg5
 z5 := Tryz.sizeOf5
 v5 := Tryz.zeroValue5
 infoByte := by kernel_rfl
 cellsByte := by kernel_rfl
 sizeByte := by kernel_rfl
 neB5 := by decide }
open Go.RowKit in
theorem Tryz.strings_Join_none (a : Option Addr) (c : Nat) (sep : ByteArray) (w : World) :
   Calls Tryz.prog 65 #[.slice a 0 c, .string sep] w fun e w' => e = .returned (.string ⟨#[]⟩) ∧ w' = w := Any.strings_Join_none Tryz.lays156 Tryz.Builder_Extra_156 a c sep w
open Go.RowKit in
theorem Tryz.strings_Join (bk o c : Nat) (xs : List ByteArray) (sep : ByteArray) (w : World) (hcells : ∀ (j : Nat) x, xs[j]? = some x → w.cell? ⟨bk, o + j, none⟩ = some (.string x)) (hbk : bk < w.heap.size) (hN : xs.length ≤ 140737488355328) (hcap : xs.length ≤ c) (hlen : (Lib.join (xs.map (·.data.toList)) sep.data.toList).length ≤ 140737488355328) :
   Calls Tryz.prog 65 #[.slice (some ⟨bk, o, none⟩) xs.length c, .string sep] w fun e w' => e = .returned (.string ⟨(Lib.join (xs.map (·.data.toList)) sep.data.toList).toArray⟩) ∧ Below w.heap.size w w' := Any.strings_Join Tryz.lays156 Tryz.Builder_Extra_156 bk o c xs sep w hcells hbk hN hcap hlen
def Tryz.lays137_ren : Go.Shelf.Ren := ⟨fun | 137 => 80 | 217 => 85 | 266 => 89 | n => n, fun | 9 => 9 | 5 => 5 | 3 => 3 | n => n, fun | n => n⟩
theorem Tryz.lays137 : Go.Proofs.Lays.n137 Tryz.prog Tryz.lays137_ren := {
 mixed := by kernel_rfl
 f137 := Tryz.func80.trans (congrArg some (by kernel_rfl))
 f217 := Tryz.func85.trans (congrArg some (by kernel_rfl))
 f266 := Tryz.func89.trans (congrArg some (by kernel_rfl))
 t3 := Tryz.underlying3
 a3 := Tryz.isAgg3
 z3 := Tryz.sizeOf3
 v3 := Tryz.zeroValue3
 t5 := Tryz.underlying5
 a5 := Tryz.isAgg5
 z5 := Tryz.sizeOf5
 v5 := Tryz.zeroValue5
 t9 := Tryz.underlying9
 a9 := Tryz.isAgg9
 z9 := Tryz.sizeOf9
 v9 := Tryz.zeroValue9 }
open Go.RowKit in
theorem Tryz.strings_IndexByte (s : ByteArray) (c : Int) (w : World) :
   Calls Tryz.prog 80 #[.string s, .int .u8 c] w fun e w' => e = .returned (.int .i64 (Lib.indexByte s.data.toList c.toNat.toUInt8)) ∧ w' = w := Any.strings_IndexByte Tryz.lays137 s c w
def Tryz.lays110_ren : Go.Shelf.Ren := ⟨fun | 110 => 73 | 109 => 81 | n => n, fun | 31 => 44 | 9 => 9 | 4 => 4 | 3 => 3 | 0 => 0 | n => n, fun | n => n⟩
theorem Tryz.lays110 : Go.Proofs.Lays.n110 Tryz.prog Tryz.lays110_ren := {
 mixed := by kernel_rfl
 f109 := Tryz.func81.trans (congrArg some (by kernel_rfl))
 f110 := Tryz.func73.trans (congrArg some (by kernel_rfl))
 t0 := Tryz.underlying0
 a0 := Tryz.isAgg0
 z0 := Tryz.sizeOf0
 v0 := Tryz.zeroValue0
 t3 := Tryz.underlying3
 a3 := Tryz.isAgg3
 z3 := Tryz.sizeOf3
 v3 := Tryz.zeroValue3
 t4 := Tryz.underlying4
 a4 := Tryz.isAgg4
 z4 := Tryz.sizeOf4
 v4 := Tryz.zeroValue4
 t9 := Tryz.underlying9
 a9 := Tryz.isAgg9
 z9 := Tryz.sizeOf9
 v9 := Tryz.zeroValue9
 t31 := Tryz.underlying44
 a31 := Tryz.isAgg44
 z31 := Tryz.sizeOf44
 v31 := Tryz.zeroValue44 }
open Go.Lib in
theorem Tryz.slices_Contains_string (b off n c : Nat) (zs : List ByteArray) (x : ByteArray) (w : World) (hz : n ≤ zs.length) (hbig : n ≤ 9223372036854775807) (hc : ∀ j, j < zs.length → w.cell? ⟨b, off + j, none⟩ = some (.string (zs.getD j ByteArray.empty))) :
   Calls Tryz.prog 73 #[.slice (some ⟨b, off, none⟩) n c, .string x] w fun e w' => e = .returned (.bool (Lib.containsS (zs.take n) x)) ∧ w' = w := Any.slices_Contains_string Tryz.lays110 b off n c zs x w hz hbig hc
open Go.Lib in
theorem Tryz.slices_Contains_string_empty (a : Option Addr) (c : Nat) (x : ByteArray) (w : World) :
   Calls Tryz.prog 73 #[.slice a 0 c, .string x] w fun e w' => e = .returned (.bool false) ∧ w' = w := Any.slices_Contains_string_empty Tryz.lays110 a c x w
end Go.Proofs
namespace Go.Proofs.YtpmpajodihpkaaaGreatDoor
open Go Go.Proofs Go.Ua Go.Extern
def smallN (n : Int) : Bool := decide (97 ≤ n) && decide (n ≤ 122)
def greatN (n : Int) : Bool := decide (65 ≤ n) && decide (n ≤ 90)
def digitN (n : Int) : Bool := decide (48 ≤ n) && decide (n ≤ 57)
def plainN (n : Int) : Bool := smallN n || digitN n
theorem small_spec (n : Int) : ESpec Tryz.prog 78 [.d (.s (.int .u8 n))] (fun x => x = .d (.s (.bool (smallN n)))) := by
 obtain ⟨z, hz⟩ : ∃ z, z = smallN n := ⟨_, rfl⟩
 rw [← hz]
 refine ESpec.enter Tryz.func78 (by kernel_rfl) rfl (Nat.le_of_ble_eq_true rfl) fun _ cx hnt hfr => ?_
 obtain ⟨F, hF⟩ := real_ex
 refine AK.run hF tabOK hnt ?_
 conv => arg 4; cbv
 cases h1 : F .leI 97 n
 · conv => arg 4; cbv
   rw [show z = false by rw [hz, smallN, decide_eq_false (leI0 hF h1)]; rfl]
   exact AKp.doneE tabOK hfr (by rfl) (by rfl)
 · conv => arg 4; cbv
   rw [show F .leI n 122 = z by rw [hz, smallN, decide_eq_true (leI1 hF h1), l_leI hF]; rfl]
   exact AKp.doneE tabOK hfr (by rfl) (by rfl)
theorem great_spec (n : Int) : ESpec Tryz.prog 88 [.d (.s (.int .u8 n))] (fun x => x = .d (.s (.bool (greatN n)))) := by
 obtain ⟨z, hz⟩ : ∃ z, z = greatN n := ⟨_, rfl⟩
 rw [← hz]
 refine ESpec.enter Tryz.func88 (by kernel_rfl) rfl (Nat.le_of_ble_eq_true rfl) fun _ cx hnt hfr => ?_
 obtain ⟨F, hF⟩ := real_ex
 refine AK.run hF tabOK hnt ?_
 conv => arg 4; cbv
 cases h1 : F .leI 65 n
 · conv => arg 4; cbv
   rw [show z = false by rw [hz, greatN, decide_eq_false (leI0 hF h1)]; rfl]
   exact AKp.doneE tabOK hfr (by rfl) (by rfl)
 · conv => arg 4; cbv
   rw [show F .leI n 90 = z by rw [hz, greatN, decide_eq_true (leI1 hF h1), l_leI hF]; rfl]
   exact AKp.doneE tabOK hfr (by rfl) (by rfl)
theorem digit_spec (n : Int) : ESpec Tryz.prog 79 [.d (.s (.int .u8 n))] (fun x => x = .d (.s (.bool (digitN n)))) := by
 obtain ⟨z, hz⟩ : ∃ z, z = digitN n := ⟨_, rfl⟩
 rw [← hz]
 refine ESpec.enter Tryz.func79 (by kernel_rfl) rfl (Nat.le_of_ble_eq_true rfl) fun _ cx hnt hfr => ?_
 obtain ⟨F, hF⟩ := real_ex
 refine AK.run hF tabOK hnt ?_
 conv => arg 4; cbv
 cases h1 : F .leI 48 n
 · conv => arg 4; cbv
   rw [show z = false by rw [hz, digitN, decide_eq_false (leI0 hF h1)]; rfl]
   exact AKp.doneE tabOK hfr (by rfl) (by rfl)
 · conv => arg 4; cbv
   rw [show F .leI n 57 = z by rw [hz, digitN, decide_eq_true (leI1 hF h1), l_leI hF]; rfl]
   exact AKp.doneE tabOK hfr (by rfl) (by rfl)
theorem plain_spec (n : Int) : ESpec Tryz.prog 63 [.d (.s (.int .u8 n))] (fun x => x = .d (.s (.bool (plainN n)))) := by
 obtain ⟨z, hz⟩ : ∃ z, z = plainN n := ⟨_, rfl⟩
 rw [← hz]
 unfold plainN smallN digitN at hz
 refine ESpec.enter Tryz.func63 (by kernel_rfl) rfl (Nat.le_of_ble_eq_true rfl) fun _ cx hnt hfr => ?_
 obtain ⟨F, hF⟩ := real_ex
 refine AK.run hF tabOK hnt ?_
 conv => arg 4; cbv
 have second : ∀ (w : Bool), (F .leI 48 n = true → w = F .leI n 57) → (F .leI 48 n = false → w = false) → (decide (48 ≤ n) && decide (n ≤ 57)) = w := by
   intro w h1 h2
   rw [l_leI hF, l_leI hF] at *
   cases h : decide (48 ≤ n)
   · rw [h2 h]; rfl
   · rw [h1 h]; rfl
 cases h1 : F .leI 97 n
 case' true =>
   conv => arg 4; cbv
   cases h2 : F .leI n 122
   case' true =>
     conv => arg 4; cbv
     rw [show z = true by rw [hz, decide_eq_true (leI1 hF h1), decide_eq_true (leI1 hF h2)]; rfl]
     exact AKp.doneE tabOK hfr (by rfl) (by rfl)
 all_goals
   conv => arg 4; cbv
   cases h3 : F .leI 48 n
   · conv => arg 4; cbv
     first
       | rw [show z = false by rw [hz, decide_eq_false (leI0 hF h1), decide_eq_false (leI0 hF h3)]; rfl]
       | rw [show z = false by rw [hz, decide_eq_false (leI0 hF h2), decide_eq_false (leI0 hF h3), Bool.and_false]; rfl]
     exact AKp.doneE tabOK hfr (by rfl) (by rfl)
   · conv => arg 4; cbv
     first
       | rw [show F .leI n 57 = z by rw [hz, decide_eq_false (leI0 hF h1), decide_eq_true (leI1 hF h3), l_leI hF]; rfl]
       | rw [show F .leI n 57 = z by rw [hz, decide_eq_false (leI0 hF h2), decide_eq_true (leI1 hF h3), l_leI hF, Bool.and_false]; rfl]
     exact AKp.doneE tabOK hfr (by rfl) (by rfl)
theorem ib_le : ∀ (l : List UInt8) (c : UInt8), Lib.indexByte l c ≤ l.length
 | [], c => by simp [Lib.indexByte]
 | b :: l, c => by
   have := ib_le l c
   unfold Lib.indexByte
   split
   · simp; omega
   · split
     · simp; omega
     · simp; omega
theorem IndexByte_spec (s : List UInt8) (c : UInt8) : ESpec Tryz.prog 80 [.d (.s (.str s)), .d (.s (.int .u8 c.toNat))] (fun x => x = .d (.s (.int .i64 (Lib.indexByte s c)))) := by
 have base : s.length ≤ maxLen → ESpec Tryz.prog 80 [.d (.s (.str s)), .d (.s (.int .u8 c.toNat))] (fun x => x = .d (.s (.int .i64 (Lib.indexByte s c)))) := by
   intro hs
   have hok : (Sc.int .i64 (Lib.indexByte s c)).ok := by
     have h1 := Lib.indexByte_ge s c
     have h2 := ib_le s c
     have hm : maxLen = 9223372036854775807 := by decide
     exact ⟨by show (-9223372036854775808 : Int) ≤ _; omega, by show _ ≤ (9223372036854775807 : Int); omega⟩
   refine ESpec.grown (enters_of Tryz.func80 (by kernel_rfl) rfl) hok fun R ι vs w hR hG hl hr => ?_
   obtain ⟨v0, v1, rfl⟩ : ∃ v0 v1, vs = [v0, v1] := by
     match vs, hl with
     | [v0, v1], _ => exact ⟨v0, v1, rfl⟩
   obtain rfl := rep_s (hr 0 _ _ rfl rfl)
   obtain rfl := rep_s (hr 1 _ _ rfl rfl)
   refine (Tryz.strings_IndexByte ⟨s.toArray⟩ c.toNat w).mono ?_
   rintro e w' ⟨rfl, rfl⟩
   refine ⟨?_, RowKit.Below.refl _ _⟩
   simp [Sc.val]
 refine ⟨enters_of Tryz.func80 (by kernel_rfl) rfl, fun X L w ι vs h1 hg h2 h3 => (base ?_).2 X L w ι vs h1 hg h2 h3⟩
 match vs, h2 with
 | [v0, v1], _ => exact rep_ok (h3 0 _ _ rfl rfl)
end Go.Proofs.YtpmpajodihpkaaaGreatDoor
namespace Go.Proofs.YtpmpajodihpkaaaGreatDoor
open Go Go.Proofs Go.Ua Go.Extern
theorem ib_neg : ∀ (l : List UInt8) (c : UInt8), decide (Lib.indexByte l c < 0) = !l.contains c
 | [], c => by simp [Lib.indexByte]
 | b :: l, c => by
   have h := ib_neg l c
   have h1 := Lib.indexByte_ge l c
   unfold Lib.indexByte
   by_cases e : b = c
   · subst e
     simp
   · rw [if_neg (by simpa using e)]
     have e2 : (b :: l).contains c = l.contains c := by
       simp [List.contains_cons]
       intro h
       exact absurd h.symm e
     rw [e2, ← h]
     by_cases e3 : Lib.indexByte l c = -1
     · rw [if_pos (by simp [e3]), e3]
     · rw [if_neg (by simpa using e3)]
       have : ¬ Lib.indexByte l c < 0 := by omega
       have : ¬ Lib.indexByte l c + 1 < 0 := by omega
       simp [*]
def marks : List UInt8 := [46, 95, 58, 47, 64, 45]
def wordB (c : UInt8) : Bool := plainN c.toNat || greatN c.toNat || marks.contains c
def wordF (w : List UInt8) : Bool := !(w == []) && decide (w.length ≤ 64) && !(w == [45]) && w.all wordB
theorem all_take_succ {α : Type} {p : α → Bool} {l : List α} {i : Nat} {c : α} (h : l[i]? = some c) (ht : (l.take i).all p = true) (hc : p c = true) : (l.take (i + 1)).all p = true := by
 rw [List.take_add_one, h]
 simp [ht, hc]
theorem all_false {α : Type} {p : α → Bool} {l : List α} {i : Nat} {c : α} (h : l[i]? = some c) (hc : p c = false) : l.all p = false := by
 rw [List.all_eq_false]
 exact ⟨c, List.mem_of_getElem? h, by simp [hc]⟩
theorem Word_spec (w : List UInt8) : ESpec Tryz.prog 72 [.d (.s (.str w))] (fun x => x = .d (.s (.bool (wordF w)))) := by
 obtain ⟨z, hz⟩ : ∃ z, z = wordF w := ⟨_, rfl⟩
 rw [← hz]
 unfold wordF at hz
 refine ESpec.enter Tryz.func72 (by kernel_rfl) rfl (Nat.le_of_ble_eq_true rfl) fun hok cx hnt hfr => ?_
 have hwl : w.length ≤ maxLen := hok.1
 have hm : maxLen = 9223372036854775807 := by decide
 obtain ⟨F, hF⟩ := real_ex
 refine AK.run hF tabOK hnt ?_
 conv => arg 4; cbv
 cases h1 : F .eqS w []
 case' true =>
   conv => arg 4; cbv
   rw [show z = false by rw [hz, eqS1 hF h1]; rfl]
   exact AKp.doneE tabOK hfr (by rfl) (by rfl)
 case' false =>
 conv => arg 4; cbv
 cases h2 : F .ltI 64 (F .lenS w)
 case' true =>
   have h2' := ltI1 hF h2
   rw [l_lenS hF] at h2'
   conv => arg 4; cbv
   rw [show z = false by rw [hz, decide_eq_false (show ¬ w.length ≤ 64 by omega)]; simp]
   exact AKp.doneE tabOK hfr (by rfl) (by rfl)
 case' false =>
 have h2' := ltI0 hF h2
 rw [l_lenS hF] at h2'
 conv => arg 4; cbv
 cases h3 : F .eqS w [45]
 case' true =>
   conv => arg 4; cbv
   rw [show z = false by rw [hz, eqS1 hF h3]; rfl]
   exact AKp.doneE tabOK hfr (by rfl) (by rfl)
 case' false =>
 have hz2 : z = w.all wordB := by
   rw [hz, decide_eq_true (show w.length ≤ 64 by omega)]
   have e1 : (w == []) = false := by simpa using eqS0 hF h1
   have e2 : (w == [45]) = false := by simpa using eqS0 hF h3
   rw [e1, e2]; simp
 conv => arg 4; cbv
 refine AKp.enterLoop 18 ?_
 conv => arg 7; cbv
 refine AKl.inv hF tabOK hnt hfr (fun n vs hs => ∃ (i : Nat) (iv : Int), i + n = w.length ∧ iv = i ∧ (w.take i).all wordB = true ∧ vs = [(18, .d (.s (.int .i64 iv)))] ∧ hs = []) w.length
   ⟨0, _, by omega, rfl, by simp, rfl, rfl⟩ (by repeat (first | exact True.intro | refine ⟨⟨rfl, rfl⟩, ?_⟩)) (by repeat (first | exact True.intro | refine ⟨⟨rfl, rfl, rfl⟩, ?_⟩)) ?_
 rintro J n vs hs hJ ⟨i, iv, hi, hiv, hall, rfl, rfl⟩
 conv => arg 4; cbv
 cases hb : F .ltI iv (F .lenS w)
 case' false =>
   have hlt := ltI0 hF hb
   rw [l_lenS hF] at hlt
   conv => arg 4; cbv
   rw [show z = true by rw [hz2, ← hall, List.take_of_length_le (by omega)]]
   exact AKp.doneE tabOK hfr (by rfl) (by rfl)
 case' true =>
   have hlt := ltI1 hF hb
   rw [l_lenS hF] at hlt
   have hil : i < w.length := by omega
   obtain ⟨c, hc⟩ : ∃ c, w[i]? = some c := ⟨_, List.getElem?_eq_getElem hil⟩
   have sp := plain_spec c.toNat
   have si := IndexByte_spec [46, 95, 58, 47, 64, 45] c
   have hib : decide (Lib.indexByte [46, 95, 58, 47, 64, 45] c < 0) = !marks.contains c := ib_neg _ c
   have hg := l_getS hF hc hiv
   obtain ⟨wb, hwb⟩ : ∃ z, z = wordB c := ⟨_, rfl⟩
   unfold wordB at hwb
   obtain ⟨cv, hcv⟩ : ∃ z : Int, z = c.toNat := ⟨_, rfl⟩
   obtain ⟨ix, hix⟩ : ∃ z : Int, z = Lib.indexByte [46, 95, 58, 47, 64, 45] c := ⟨_, rfl⟩
   obtain ⟨pb, hpb⟩ : ∃ z, z = plainN c.toNat := ⟨_, rfl⟩
   rw [← hpb] at sp hwb
   rw [← hcv] at sp si hg hwb
   rw [← hix] at si hib
   have hnext : wb = true → (w.take (i + 1)).all wordB = true := fun h => all_take_succ hc hall (by rw [← h, hwb, hpb, hcv]; rfl)
   have hend : wb = false → z = false := fun h => by rw [hz2]; exact all_false hc (by rw [← h, hwb, hpb, hcv]; rfl)
   conv => arg 4; cbv
   rw [hg]
   conv => arg 4; cbv
   refine AKp.call hF tabOK hnt sp rfl rfl rfl rfl rfl rfl rfl (by repeat' first | exact .refl _ | constructor) ?_
   rintro _ rfl
   conv => arg 4; cbv
   cases pb
   case' true =>
     rw [l_not1 hF]
     conv => arg 4; cbv
     refine AKp.again _ hfr (by repeat (first | exact True.intro | refine ⟨⟨rfl, rfl⟩, ?_⟩)) (by repeat (first | exact True.intro | refine ⟨⟨rfl, rfl, rfl⟩, ?_⟩)) (hJ (n - 1) _ _ (by omega) ⟨i + 1, _, by omega, inc_i hF hiv (by omega), hnext (by rw [hwb]; rfl), rfl, rfl⟩)
   case' false =>
     rw [l_not0 hF]
     conv => arg 4; cbv
     have last : ∀ g : Bool, greatN cv = false → wb = marks.contains c := fun _ h => by rw [hwb, h]; rfl
     cases h5 : F .ltI cv 65
     case' false =>
       conv => arg 4; cbv
       cases h6 : F .ltI 90 cv
       case' false =>
         conv => arg 4; cbv
         refine AKp.again _ hfr (by repeat (first | exact True.intro | refine ⟨⟨rfl, rfl⟩, ?_⟩)) (by repeat (first | exact True.intro | refine ⟨⟨rfl, rfl, rfl⟩, ?_⟩)) (hJ (n - 1) _ _ (by omega) ⟨i + 1, _, by omega, inc_i hF hiv (by omega), hnext (by
           have g1 := ltI0 hF h5
           have g2 := ltI0 hF h6
           rw [hwb, greatN, decide_eq_true (show 65 ≤ cv by omega), decide_eq_true (show cv ≤ 90 by omega)]; rfl), rfl, rfl⟩)
       case' true =>
         have hgr : greatN cv = false := by
           have g2 := ltI1 hF h6
           rw [greatN, decide_eq_false (show ¬ cv ≤ 90 by omega), Bool.and_false]
     case' true =>
       have hgr : greatN cv = false := by
         have g2 := ltI1 hF h5
         rw [greatN, decide_eq_false (show ¬ 65 ≤ cv by omega)]; rfl
     all_goals
       conv => arg 4; cbv
       refine AKp.call hF tabOK hnt si rfl rfl rfl rfl rfl rfl rfl (by repeat' first | exact .refl _ | constructor) ?_
       rintro _ rfl
       conv => arg 4; cbv
       have hw2 := last true hgr
       cases h7 : F .ltI ix 0
       · have h7' := ltI0 hF h7
         rw [decide_eq_false h7'] at hib
         conv => arg 4; cbv
         have hx : marks.contains c = true := by
           generalize marks.contains c = x at hib ⊢
           cases x
           · exact absurd hib (by decide)
           · rfl
         refine AKp.again _ hfr (by repeat (first | exact True.intro | refine ⟨⟨rfl, rfl⟩, ?_⟩)) (by repeat (first | exact True.intro | refine ⟨⟨rfl, rfl, rfl⟩, ?_⟩)) (hJ (n - 1) _ _ (by omega) ⟨i + 1, _, by omega, inc_i hF hiv (by omega), hnext (by rw [hw2]; exact hx), rfl, rfl⟩)
       · have h7' := ltI1 hF h7
         rw [decide_eq_true h7'] at hib
         conv => arg 4; cbv
         have hx : marks.contains c = false := by
           generalize marks.contains c = x at hib ⊢
           cases x
           · rfl
           · exact absurd hib (by decide)
         rw [hend (by rw [hw2]; exact hx)]
         exact AKp.doneE tabOK hfr (by rfl) (by rfl)
end Go.Proofs.YtpmpajodihpkaaaGreatDoor
namespace Go.Proofs.YtpmpajodihpkaaaGreatDoor
open Go Go.Proofs Go.Ua Go.Extern
def nameB (c : UInt8) : Bool := plainN c.toNat || ((c.toNat : Int) == 45)
def nameF (w : List UInt8) : Bool := match w with
 | [] => false
 | c :: _ => decide (w.length ≤ 32) && smallN c.toNat && w.all nameB
theorem Name_spec (w : List UInt8) : ESpec Tryz.prog 45 [.d (.s (.str w))] (fun x => x = .d (.s (.bool (nameF w)))) := by
 obtain ⟨z, hz⟩ : ∃ z, z = nameF w := ⟨_, rfl⟩
 rw [← hz]
 refine ESpec.enter Tryz.func45 (by kernel_rfl) rfl (Nat.le_of_ble_eq_true rfl) fun hok cx hnt hfr => ?_
 have hwl : w.length ≤ maxLen := hok.1
 have hm : maxLen = 9223372036854775807 := by decide
 obtain ⟨F, hF⟩ := real_ex
 refine AK.run hF tabOK hnt ?_
 conv => arg 4; cbv
 cases h1 : F .eqS w []
 case' true =>
   conv => arg 4; cbv
   rw [show z = false by rw [hz, eqS1 hF h1]; rfl]
   exact AKp.doneE tabOK hfr (by rfl) (by rfl)
 case' false =>
 have hne := eqS0 hF h1
 obtain ⟨c0, w0, hw0⟩ : ∃ c r, w = c :: r := by
   cases w with
   | nil => exact absurd rfl hne
   | cons c r => exact ⟨c, r, rfl⟩
 have hz1 : z = (decide (w.length ≤ 32) && smallN c0.toNat && w.all nameB) := by rw [hz, hw0]; rfl
 have hg0 := l_getS hF (s := w) (i := 0) (c := c0) (iv := 0) (by rw [hw0]; rfl) rfl
 obtain ⟨c0v, hc0v⟩ : ∃ z : Int, z = c0.toNat := ⟨_, rfl⟩
 rw [← hc0v] at hz1 hg0
 unfold smallN at hz1
 conv => arg 4; cbv
 cases h2 : F .ltI 32 (F .lenS w)
 case' true =>
   have h2' := ltI1 hF h2
   rw [l_lenS hF] at h2'
   conv => arg 4; cbv
   rw [show z = false by rw [hz1, decide_eq_false (show ¬ w.length ≤ 32 by omega)]; simp]
   exact AKp.doneE tabOK hfr (by rfl) (by rfl)
 case' false =>
 have h2' := ltI0 hF h2
 rw [l_lenS hF] at h2'
 conv => arg 4; cbv
 rw [hg0]
 conv => arg 4; cbv
 cases h3 : F .ltI c0v 97
 case' true =>
   have h3' := ltI1 hF h3
   conv => arg 4; cbv
   rw [show z = false by rw [hz1, decide_eq_false (show ¬ 97 ≤ c0v by omega)]; simp]
   exact AKp.doneE tabOK hfr (by rfl) (by rfl)
 case' false =>
 have h3' := ltI0 hF h3
 conv => arg 4; cbv
 rw [hg0]
 conv => arg 4; cbv
 cases h4 : F .ltI 122 c0v
 case' true =>
   have h4' := ltI1 hF h4
   conv => arg 4; cbv
   rw [show z = false by rw [hz1, decide_eq_false (show ¬ c0v ≤ 122 by omega)]; simp]
   exact AKp.doneE tabOK hfr (by rfl) (by rfl)
 case' false =>
 have h4' := ltI0 hF h4
 have hz2 : z = w.all nameB := by
   rw [hz1, decide_eq_true (show w.length ≤ 32 by omega), decide_eq_true (show 97 ≤ c0v by omega), decide_eq_true (show c0v ≤ 122 by omega)]
   simp
 conv => arg 4; cbv
 refine AKp.enterLoop 23 ?_
 conv => arg 7; cbv
 refine AKl.inv hF tabOK hnt hfr (fun n vs hs => ∃ (i : Nat) (iv : Int), i + n = w.length ∧ iv = i ∧ (w.take i).all nameB = true ∧ vs = [(23, .d (.s (.int .i64 iv)))] ∧ hs = []) w.length
   ⟨0, _, by omega, rfl, by simp, rfl, rfl⟩ (by repeat (first | exact True.intro | refine ⟨⟨rfl, rfl⟩, ?_⟩)) (by repeat (first | exact True.intro | refine ⟨⟨rfl, rfl, rfl⟩, ?_⟩)) ?_
 rintro J n vs hs hJ ⟨i, iv, hi, hiv, hall, rfl, rfl⟩
 conv => arg 4; cbv
 cases hb : F .ltI iv (F .lenS w)
 case' false =>
   have hlt := ltI0 hF hb
   rw [l_lenS hF] at hlt
   conv => arg 4; cbv
   rw [show z = true by rw [hz2, ← hall, List.take_of_length_le (by omega)]]
   exact AKp.doneE tabOK hfr (by rfl) (by rfl)
 case' true =>
   have hlt := ltI1 hF hb
   rw [l_lenS hF] at hlt
   have hil : i < w.length := by omega
   obtain ⟨c, hc⟩ : ∃ c, w[i]? = some c := ⟨_, List.getElem?_eq_getElem hil⟩
   have sp := plain_spec c.toNat
   have hg := l_getS hF hc hiv
   obtain ⟨wb, hwb⟩ : ∃ z, z = nameB c := ⟨_, rfl⟩
   unfold nameB at hwb
   obtain ⟨cv, hcv⟩ : ∃ z : Int, z = c.toNat := ⟨_, rfl⟩
   obtain ⟨pb, hpb⟩ : ∃ z, z = plainN c.toNat := ⟨_, rfl⟩
   rw [← hpb] at sp hwb
   rw [← hcv] at sp hg hwb
   have hnext : wb = true → (w.take (i + 1)).all nameB = true := fun h => all_take_succ hc hall (by rw [← h, hwb, hpb, hcv]; rfl)
   have hend : wb = false → z = false := fun h => by rw [hz2]; exact all_false hc (by rw [← h, hwb, hpb, hcv]; rfl)
   conv => arg 4; cbv
   rw [hg]
   conv => arg 4; cbv
   refine AKp.call hF tabOK hnt sp rfl rfl rfl rfl rfl rfl rfl (by repeat' first | exact .refl _ | constructor) ?_
   rintro _ rfl
   conv => arg 4; cbv
   cases pb
   case' true =>
     rw [l_not1 hF]
     conv => arg 4; cbv
     refine AKp.again _ hfr (by repeat (first | exact True.intro | refine ⟨⟨rfl, rfl⟩, ?_⟩)) (by repeat (first | exact True.intro | refine ⟨⟨rfl, rfl, rfl⟩, ?_⟩)) (hJ (n - 1) _ _ (by omega) ⟨i + 1, _, by omega, inc_i hF hiv (by omega), hnext (by rw [hwb]; rfl), rfl, rfl⟩)
   case' false =>
     rw [l_not0 hF]
     conv => arg 4; cbv
     rw [hg]
     conv => arg 4; cbv
     cases h5 : F .eqI cv 45
     case' false =>
       have h5' := eqI0 hF h5
       rw [l_not0 hF]
       conv => arg 4; cbv
       rw [hend (by rw [hwb]; simp [h5'])]
       exact AKp.doneE tabOK hfr (by rfl) (by rfl)
     case' true =>
       have h5' := eqI1 hF h5
       rw [l_not1 hF]
       conv => arg 4; cbv
       refine AKp.again _ hfr (by repeat (first | exact True.intro | refine ⟨⟨rfl, rfl⟩, ?_⟩)) (by repeat (first | exact True.intro | refine ⟨⟨rfl, rfl, rfl⟩, ?_⟩)) (hJ (n - 1) _ _ (by omega) ⟨i + 1, _, by omega, inc_i hF hiv (by omega), hnext (by rw [hwb, h5']; rfl), rfl, rfl⟩)
end Go.Proofs.YtpmpajodihpkaaaGreatDoor
namespace Go.Proofs.YtpmpajodihpkaaaGreatDoor
open Go Go.Proofs Go.Ua Go.Extern
def digB (c : UInt8) : Bool := digitN c.toNat
def valN (w : List UInt8) : Nat := w.foldl (fun n c => 10 * n + (c.toNat - 48)) 0
def numForm (w : List UInt8) : Bool := decide (1 ≤ w.length) && decide (w.length ≤ 9) && !(decide (1 < w.length) && decide (w[0]? = some 48)) && w.all digB
def numberF (w : List UInt8) (least most : Int) : Option Int := if numForm w = true ∧ least ≤ (valN w : Int) ∧ (valN w : Int) ≤ most then some (valN w : Int) else none
theorem valN_take {w : List UInt8} {i : Nat} {c : UInt8} (h : w[i]? = some c) : valN (w.take (i + 1)) = 10 * valN (w.take i) + (c.toNat - 48) := by
 rw [List.take_add_one, h]
 simp [valN, List.foldl_append]
theorem digB_le {c : UInt8} (h : digB c = true) : 48 ≤ c.toNat ∧ c.toNat ≤ 57 := by
 unfold digB digitN at h
 simp only [Bool.and_eq_true, decide_eq_true_eq] at h
 omega
theorem valN_lt {w : List UInt8} : ∀ (i : Nat), i ≤ w.length → (w.take i).all digB = true → valN (w.take i) < 10 ^ i := by
 intro i
 induction i with
 | zero => intro _ _; simp [valN]
 | succ i ih =>
   intro hi hall
   obtain ⟨c, hc⟩ : ∃ c, w[i]? = some c := ⟨_, List.getElem?_eq_getElem (by omega)⟩
   rw [List.take_add_one, hc] at hall
   simp only [Option.toList_some, List.all_append, Bool.and_eq_true, List.all_cons, List.all_nil, Bool.and_true] at hall
   have := ih (by omega) hall.1
   have h2 := digB_le hall.2
   rw [valN_take hc, Nat.pow_succ]
   omega
end Go.Proofs.YtpmpajodihpkaaaGreatDoor
