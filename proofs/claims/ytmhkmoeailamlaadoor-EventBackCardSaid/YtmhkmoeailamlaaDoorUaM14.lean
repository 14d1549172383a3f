/- The library of this claim and its walks, part 14, joined out of smaller texts. No statement stands in it. -/
import Derived.Test.YtmhkmoeailamlaaDoorUaM13
import Derived.Shelf.Strings.Builder1
import Derived.Shelf.Strings.Builder2
import Derived.Shelf.Strings.OnBuilder
import Derived.Shelf.Small.Strs
import Derived.Shelf.Strings.BuilderF
import Derived.Shelf.Strings.BuilderK
import Derived.Shelf.Utf8.RuneCount
import Derived.Shelf.Strings.Builder2Cap
import Derived.Shelf.Strconv.Itoa0
import Derived.Shelf.Strconv.Itoa1
import Derived.Shelf.LaysM
import Derived.Shelf.Strconv.Itoa2
import Derived.Shelf.Strconv.Itoa3
import Derived.Shelf.Strings.Search1
import Derived.Shelf.Strings.Search2
import Derived.Shelf.Strings.Search3
import Derived.Shelf.Strings.Cut
import Derived.Shelf.Strings.Count
import Derived.Shelf.Strings.Shaped
import Derived.Shelf.Strings.Prefix
import Derived.Shelf.Strings.Split
import Derived.Shelf.Strings.Replace
import Derived.Shelf.Strings.SplitShaped
import Derived.Shelf.Unicode.Decode
import Derived.Shelf.Strings.RuneCount
import Derived.Shelf.Strings.Explode
import Derived.Shelf.Unicode.DecodeSlow
import Derived.Shelf.Unicode.DecodeAny
import Derived.Shelf.Strings.FieldsFuncAny
import Derived.Shelf.Strings.FieldsFuncGrows
import Derived.Shelf.Strings.BuilderCap
import Derived.Shelf.Slices.Turned
import Derived.Test.YtmhkmoeailamlaaDoorProg
/- The library's contracts at this program, as the kit's own tool lays them (lay-shelf, lay-plain). -/
namespace Go.Proofs
open Go.Shelf
def Tryd.lays156_ren : Go.Shelf.Ren := ⟨fun | 156 => 45 | 165 => 59 | 166 => 60 | 169 => 61 | 240 => 71 | 241 => 72 | 276 => 83 | 277 => 84 | n => n, fun | 31 => 23 | 9 => 9 | 3 => 3 | 4 => 4 | 0 => 0 | 20 => 20 | 72 => 85 | 76 => 89 | 70 => 83 | 37 => 41 | 75 => 88 | 127 => 97 | 164 => 103 | 5 => 5 | 80 => 71 | n => n, fun | n => n⟩
theorem Tryd.lays156 : Go.Proofs.Lays.n156 Tryd.prog Tryd.lays156_ren := {
  mixed := by kernel_rfl
  f156 := Tryd.func45.trans (congrArg some (by kernel_rfl))
  f165 := Tryd.func59.trans (congrArg some (by kernel_rfl))
  f166 := Tryd.func60.trans (congrArg some (by kernel_rfl))
  f169 := Tryd.func61.trans (congrArg some (by kernel_rfl))
  f240 := Tryd.func71.trans (congrArg some (by kernel_rfl))
  f241 := Tryd.func72.trans (congrArg some (by kernel_rfl))
  f276 := Tryd.func83.trans (congrArg some (by kernel_rfl))
  f277 := Tryd.func84.trans (congrArg some (by kernel_rfl))
  t0 := Tryd.underlying0
  a0 := Tryd.isAgg0
  z0 := Tryd.sizeOf0
  v0 := Tryd.zeroValue0
  t3 := Tryd.underlying3
  a3 := Tryd.isAgg3
  z3 := Tryd.sizeOf3
  v3 := Tryd.zeroValue3
  t4 := Tryd.underlying4
  a4 := Tryd.isAgg4
  z4 := Tryd.sizeOf4
  v4 := Tryd.zeroValue4
  t9 := Tryd.underlying9
  a9 := Tryd.isAgg9
  z9 := Tryd.sizeOf9
  v9 := Tryd.zeroValue9
  t20 := Tryd.underlying20
  a20 := Tryd.isAgg20
  z20 := Tryd.sizeOf20
  v20 := Tryd.zeroValue20
  t31 := Tryd.underlying23
  a31 := Tryd.isAgg23
  z31 := Tryd.sizeOf23
  v31 := Tryd.zeroValue23
  t37 := Tryd.underlying41
  a37 := Tryd.isAgg41
  z37 := Tryd.sizeOf41
  v37 := Tryd.zeroValue41
  t70 := Tryd.underlying83
  a70 := Tryd.isAgg83
  z70 := Tryd.sizeOf83
  v70 := Tryd.zeroValue83
  t72 := Tryd.underlying85
  a72 := Tryd.isAgg85
  z72 := Tryd.sizeOf85
  v72 := Tryd.zeroValue85
  t75 := Tryd.underlying88
  a75 := Tryd.isAgg88
  z75 := Tryd.sizeOf88
  v75 := Tryd.zeroValue88
  t76 := Tryd.underlying89
  a76 := Tryd.isAgg89
  z76 := Tryd.sizeOf89
  v76 := Tryd.zeroValue89
  t127 := Tryd.underlying97
  a127 := Tryd.isAgg97
  z127 := Tryd.sizeOf97
  v127 := Tryd.zeroValue97
  t164 := Tryd.underlying103
  a164 := Tryd.isAgg103
  z164 := Tryd.sizeOf103
  v164 := Tryd.zeroValue103 }
theorem Tryd.Builder_Extra_156 : Builder.Extra Tryd.prog Tryd.lays156_ren := {
  sizeBuilder := by kernel_rfl
  liesBuilder := by kernel_rfl
  t5 := Tryd.underlying5
  a5 := Tryd.isAgg5
  z5 := Tryd.sizeOf5
  v5 := Tryd.zeroValue5
  infoByte := by kernel_rfl
  cellsByte := by kernel_rfl
  sizeByte := by kernel_rfl
  neB5 := by decide }
open Go.RowKit in
theorem Tryd.strings_Join_none (a : Option Addr) (c : Nat) (sep : ByteArray) (w : World) :
    Calls Tryd.prog 45 #[.slice a 0 c, .string sep] w fun e w' => e = .returned (.string ⟨#[]⟩) ∧ w' = w := Any.strings_Join_none Tryd.lays156 Tryd.Builder_Extra_156 a c sep w
open Go.RowKit in
theorem Tryd.strings_Join (bk o c : Nat) (xs : List ByteArray) (sep : ByteArray) (w : World) (hcells : ∀ (j : Nat) x, xs[j]? = some x → w.cell? ⟨bk, o + j, none⟩ = some (.string x)) (hbk : bk < w.heap.size) (hN : xs.length ≤ 140737488355328) (hcap : xs.length ≤ c) (hlen : (Lib.join (xs.map (·.data.toList)) sep.data.toList).length ≤ 140737488355328) :
    Calls Tryd.prog 45 #[.slice (some ⟨bk, o, none⟩) xs.length c, .string sep] w fun e w' => e = .returned (.string ⟨(Lib.join (xs.map (·.data.toList)) sep.data.toList).toArray⟩) ∧ Below w.heap.size w w' := Any.strings_Join Tryd.lays156 Tryd.Builder_Extra_156 bk o c xs sep w hcells hbk hN hcap hlen
def Tryd.lays137_ren : Go.Shelf.Ren := ⟨fun | 137 => 56 | 217 => 68 | 266 => 80 | n => n, fun | 9 => 9 | 5 => 5 | 3 => 3 | n => n, fun | n => n⟩
theorem Tryd.lays137 : Go.Proofs.Lays.n137 Tryd.prog Tryd.lays137_ren := {
  mixed := by kernel_rfl
  f137 := Tryd.func56.trans (congrArg some (by kernel_rfl))
  f217 := Tryd.func68.trans (congrArg some (by kernel_rfl))
  f266 := Tryd.func80.trans (congrArg some (by kernel_rfl))
  t3 := Tryd.underlying3
  a3 := Tryd.isAgg3
  z3 := Tryd.sizeOf3
  v3 := Tryd.zeroValue3
  t5 := Tryd.underlying5
  a5 := Tryd.isAgg5
  z5 := Tryd.sizeOf5
  v5 := Tryd.zeroValue5
  t9 := Tryd.underlying9
  a9 := Tryd.isAgg9
  z9 := Tryd.sizeOf9
  v9 := Tryd.zeroValue9 }
open Go.RowKit in
theorem Tryd.strings_IndexByte (s : ByteArray) (c : Int) (w : World) :
    Calls Tryd.prog 56 #[.string s, .int .u8 c] w fun e w' => e = .returned (.int .i64 (Lib.indexByte s.data.toList c.toNat.toUInt8)) ∧ w' = w := Any.strings_IndexByte Tryd.lays137 s c w
def Tryd.laysM171_ren : Go.Shelf.Ren := ⟨fun | 171 => 62 | 243 => 73 | 246 => 85 | 283 => 87 | 284 => 88 | 285 => 89 | 286 => 90 | 129 => 92 | 317 => 91 | 318 => 93 | 319 => 94 | 320 => 95 | 337 => 96 | 338 => 97 | n => n, fun | 3 => 3 | 9 => 9 | 2 => 2 | 4 => 4 | 171 => 114 | 0 => 0 | 53 => 115 | 37 => 41 | 5 => 5 | 173 => 118 | 212 => 121 | 51 => 107 | 20 => 20 | 213 => 122 | 46 => 99 | 232 => 126 | 233 => 127 | n => n, fun | 17 => 3 | 18 => 4 | 19 => 5 | n => n⟩
theorem Tryd.laysM171 : Go.Proofs.LaysM.n171 Tryd.prog Tryd.laysM171_ren := {
  mixed := by kernel_rfl
  f129 := Tryd.func92.trans (congrArg some (by kernel_rfl))
  f171 := Tryd.func62.trans (congrArg some (by kernel_rfl))
  f243 := Tryd.func73.trans (congrArg some (by kernel_rfl))
  f246 := Tryd.func85.trans (congrArg some (by kernel_rfl))
  f283 := Tryd.func87.trans (congrArg some (by kernel_rfl))
  f284 := Tryd.func88.trans (congrArg some (by kernel_rfl))
  f285 := Tryd.func89.trans (congrArg some (by kernel_rfl))
  f286 := Tryd.func90.trans (congrArg some (by kernel_rfl))
  f317 := Tryd.func91.trans (congrArg some (by kernel_rfl))
  f318 := Tryd.func93.trans (congrArg some (by kernel_rfl))
  f319 := Tryd.func94.trans (congrArg some (by kernel_rfl))
  f320 := Tryd.func95.trans (congrArg some (by kernel_rfl))
  f337 := Tryd.func96.trans (congrArg some (by kernel_rfl))
  f338 := Tryd.func97.trans (congrArg some (by kernel_rfl))
  t0 := Tryd.underlying0
  a0 := Tryd.isAgg0
  z0 := Tryd.sizeOf0
  v0 := Tryd.zeroValue0
  t2 := Tryd.underlying2
  a2 := Tryd.isAgg2
  z2 := Tryd.sizeOf2
  v2 := Tryd.zeroValue2
  t3 := Tryd.underlying3
  a3 := Tryd.isAgg3
  z3 := Tryd.sizeOf3
  v3 := Tryd.zeroValue3
  t4 := Tryd.underlying4
  a4 := Tryd.isAgg4
  z4 := Tryd.sizeOf4
  v4 := Tryd.zeroValue4
  t5 := Tryd.underlying5
  a5 := Tryd.isAgg5
  z5 := Tryd.sizeOf5
  v5 := Tryd.zeroValue5
  t9 := Tryd.underlying9
  a9 := Tryd.isAgg9
  z9 := Tryd.sizeOf9
  v9 := Tryd.zeroValue9
  t20 := Tryd.underlying20
  a20 := Tryd.isAgg20
  z20 := Tryd.sizeOf20
  v20 := Tryd.zeroValue20
  t37 := Tryd.underlying41
  a37 := Tryd.isAgg41
  z37 := Tryd.sizeOf41
  v37 := Tryd.zeroValue41
  t46 := Tryd.underlying99
  a46 := Tryd.isAgg99
  z46 := Tryd.sizeOf99
  v46 := Tryd.zeroValue99
  t51 := Tryd.underlying107
  a51 := Tryd.isAgg107
  z51 := Tryd.sizeOf107
  v51 := Tryd.zeroValue107
  t53 := Tryd.underlying115
  a53 := Tryd.isAgg115
  z53 := Tryd.sizeOf115
  v53 := Tryd.zeroValue115
  t171 := Tryd.underlying114
  a171 := Tryd.isAgg114
  z171 := Tryd.sizeOf114
  v171 := Tryd.zeroValue114
  t173 := Tryd.underlying118
  a173 := Tryd.isAgg118
  z173 := Tryd.sizeOf118
  v173 := Tryd.zeroValue118
  t212 := Tryd.underlying121
  a212 := Tryd.isAgg121
  z212 := Tryd.sizeOf121
  v212 := Tryd.zeroValue121
  t213 := Tryd.underlying122
  a213 := Tryd.isAgg122
  z213 := Tryd.sizeOf122
  t232 := Tryd.underlying126
  a232 := Tryd.isAgg126
  z232 := Tryd.sizeOf126
  v232 := Tryd.zeroValue126
  t233 := Tryd.underlying127
  a233 := Tryd.isAgg127
  z233 := Tryd.sizeOf127
  v233 := Tryd.zeroValue127
  g17 := by kernel_rfl
  g18 := by kernel_rfl
  g19 := by kernel_rfl
  i0 := by kernel_rfl
  i2 := by kernel_rfl
  i3 := by kernel_rfl
  i4 := by kernel_rfl
  i5 := by kernel_rfl
  i9 := by kernel_rfl
  i20 := by kernel_rfl
  i37 := by kernel_rfl
  i46 := by kernel_rfl
  i51 := by kernel_rfl
  i53 := by kernel_rfl
  i171 := by kernel_rfl
  i173 := by kernel_rfl
  i212 := by kernel_rfl
  i232 := by kernel_rfl
  i233 := by kernel_rfl
  m17 := by kernel_rfl
  m18 := by kernel_rfl
  m19 := by kernel_rfl }
open Go.RowKit Go.Sort Go.Lib in
theorem Tryd.strconv_Itoa (n : Int) (h0 : -9223372036854775808 ≤ n) (h1 : n ≤ 9223372036854775807) (w : World) (htab : Lib.TabIs Tryd.prog w "internal/strconv.uint64pow10" .u64 Lib.pow10Tab) :
    Calls Tryd.prog 62 #[.int .i64 n] w fun e w' => e = .returned (.string ⟨(Lib.itoa n).toArray⟩) ∧ ∃ k os, w' = grow (w.drewN k) os := Any.strconv_Itoa Tryd.laysM171 n h0 h1 w htab
def Tryd.lays145_ren : Go.Shelf.Ren := ⟨fun | 145 => 36 | 220 => 52 | 219 => 63 | 217 => 68 | 225 => 74 | 224 => 75 | 267 => 76 | 266 => 80 | 314 => 86 | n => n, fun | 9 => 9 | 4 => 4 | 59 => 65 | 3 => 3 | 5 => 5 | 46 => 99 | 146 => 108 | 51 => 107 | n => n, fun | 1 => 0 | n => n⟩
theorem Tryd.lays145 : Go.Proofs.Lays.n145 Tryd.prog Tryd.lays145_ren := {
  mixed := by kernel_rfl
  f145 := Tryd.func36.trans (congrArg some (by kernel_rfl))
  f217 := Tryd.func68.trans (congrArg some (by kernel_rfl))
  f219 := Tryd.func63.trans (congrArg some (by kernel_rfl))
  f220 := Tryd.func52.trans (congrArg some (by kernel_rfl))
  f224 := Tryd.func75.trans (congrArg some (by kernel_rfl))
  f225 := Tryd.func74.trans (congrArg some (by kernel_rfl))
  f266 := Tryd.func80.trans (congrArg some (by kernel_rfl))
  f267 := Tryd.func76.trans (congrArg some (by kernel_rfl))
  f314 := Tryd.func86.trans (congrArg some (by kernel_rfl))
  t3 := Tryd.underlying3
  a3 := Tryd.isAgg3
  z3 := Tryd.sizeOf3
  v3 := Tryd.zeroValue3
  t4 := Tryd.underlying4
  a4 := Tryd.isAgg4
  z4 := Tryd.sizeOf4
  v4 := Tryd.zeroValue4
  t5 := Tryd.underlying5
  a5 := Tryd.isAgg5
  z5 := Tryd.sizeOf5
  v5 := Tryd.zeroValue5
  t9 := Tryd.underlying9
  a9 := Tryd.isAgg9
  z9 := Tryd.sizeOf9
  v9 := Tryd.zeroValue9
  t46 := Tryd.underlying99
  a46 := Tryd.isAgg99
  z46 := Tryd.sizeOf99
  v46 := Tryd.zeroValue99
  t51 := Tryd.underlying107
  a51 := Tryd.isAgg107
  z51 := Tryd.sizeOf107
  v51 := Tryd.zeroValue107
  t59 := Tryd.underlying65
  a59 := Tryd.isAgg65
  z59 := Tryd.sizeOf65
  v59 := Tryd.zeroValue65
  t146 := Tryd.underlying108
  a146 := Tryd.isAgg108
  z146 := Tryd.sizeOf108
  v146 := Tryd.zeroValue108
  g1 := by kernel_rfl }
open Go.RowKit Go.Lib in
theorem Tryd.strings_Cut (s sep : ByteArray) (m : Int) (w : World) (hs : s.size < 4294967281) (hm : w.cell? ⟨0, 0, none⟩ = some (.int .i64 m)) :
    Calls Tryd.prog 36 #[.string s, .string sep] w fun e w' => e = .returned (.tuple #[.string ⟨(Lib.cut s.data.toList sep.data.toList).1.toArray⟩, .string ⟨(Lib.cut s.data.toList sep.data.toList).2.1.toArray⟩, .bool (Lib.cut s.data.toList sep.data.toList).2.2]) ∧ ∃ n, w' = w.drewN n := Any.strings_Cut Tryd.lays145 s sep m w hs hm
def Tryd.lays101_ren : Go.Shelf.Ren := ⟨fun | 101 => 37 | 208 => 53 | 206 => 64 | n => n, fun | 9 => 9 | 4 => 4 | 3 => 3 | n => n, fun | n => n⟩
theorem Tryd.lays101 : Go.Proofs.Lays.n101 Tryd.prog Tryd.lays101_ren := {
  mixed := by kernel_rfl
  f101 := Tryd.func37.trans (congrArg some (by kernel_rfl))
  f206 := Tryd.func64.trans (congrArg some (by kernel_rfl))
  f208 := Tryd.func53.trans (congrArg some (by kernel_rfl))
  t3 := Tryd.underlying3
  a3 := Tryd.isAgg3
  z3 := Tryd.sizeOf3
  v3 := Tryd.zeroValue3
  t4 := Tryd.underlying4
  a4 := Tryd.isAgg4
  z4 := Tryd.sizeOf4
  v4 := Tryd.zeroValue4
  t9 := Tryd.underlying9
  a9 := Tryd.isAgg9
  z9 := Tryd.sizeOf9
  v9 := Tryd.zeroValue9 }
open Go.RowKit Go.Lib in
theorem Tryd.strings_TrimPrefix (s p : ByteArray) (w : World) :
    Calls Tryd.prog 37 #[.string s, .string p] w fun e w' => e = .returned (.string ⟨(Lib.trimPrefix s.data.toList p.data.toList).toArray⟩) ∧ w' = w := Any.strings_TrimPrefix Tryd.lays101 s p w
def Tryd.lays146_ren : Go.Shelf.Ren := ⟨fun | 146 => 57 | 221 => 69 | 268 => 81 | 138 => 65 | 143 => 66 | 195 => 77 | 197 => 67 | 218 => 78 | 219 => 63 | 260 => 79 | 217 => 68 | 225 => 74 | 224 => 75 | 267 => 76 | 266 => 80 | 314 => 86 | n => n, fun | 9 => 9 | 31 => 23 | 3 => 3 | 4 => 4 | 0 => 0 | 105 => 93 | 21 => 21 | 5 => 5 | 46 => 99 | 119 => 110 | 139 => 113 | 138 => 112 | 146 => 108 | 51 => 107 | n => n, fun | 1 => 0 | 3 => 1 | 4 => 2 | n => n⟩
theorem Tryd.lays146 : Go.Proofs.Lays.n146 Tryd.prog Tryd.lays146_ren := {
  mixed := by kernel_rfl
  f138 := Tryd.func65.trans (congrArg some (by kernel_rfl))
  f143 := Tryd.func66.trans (congrArg some (by kernel_rfl))
  f146 := Tryd.func57.trans (congrArg some (by kernel_rfl))
  f195 := Tryd.func77.trans (congrArg some (by kernel_rfl))
  f197 := Tryd.func67.trans (congrArg some (by kernel_rfl))
  f217 := Tryd.func68.trans (congrArg some (by kernel_rfl))
  f218 := Tryd.func78.trans (congrArg some (by kernel_rfl))
  f219 := Tryd.func63.trans (congrArg some (by kernel_rfl))
  f221 := Tryd.func69.trans (congrArg some (by kernel_rfl))
  f224 := Tryd.func75.trans (congrArg some (by kernel_rfl))
  f225 := Tryd.func74.trans (congrArg some (by kernel_rfl))
  f260 := Tryd.func79.trans (congrArg some (by kernel_rfl))
  f266 := Tryd.func80.trans (congrArg some (by kernel_rfl))
  f267 := Tryd.func76.trans (congrArg some (by kernel_rfl))
  f268 := Tryd.func81.trans (congrArg some (by kernel_rfl))
  f314 := Tryd.func86.trans (congrArg some (by kernel_rfl))
  t0 := Tryd.underlying0
  a0 := Tryd.isAgg0
  z0 := Tryd.sizeOf0
  v0 := Tryd.zeroValue0
  t3 := Tryd.underlying3
  a3 := Tryd.isAgg3
  z3 := Tryd.sizeOf3
  v3 := Tryd.zeroValue3
  t4 := Tryd.underlying4
  a4 := Tryd.isAgg4
  z4 := Tryd.sizeOf4
  v4 := Tryd.zeroValue4
  t5 := Tryd.underlying5
  a5 := Tryd.isAgg5
  z5 := Tryd.sizeOf5
  v5 := Tryd.zeroValue5
  t9 := Tryd.underlying9
  a9 := Tryd.isAgg9
  z9 := Tryd.sizeOf9
  v9 := Tryd.zeroValue9
  t21 := Tryd.underlying21
  a21 := Tryd.isAgg21
  z21 := Tryd.sizeOf21
  v21 := Tryd.zeroValue21
  t31 := Tryd.underlying23
  a31 := Tryd.isAgg23
  z31 := Tryd.sizeOf23
  v31 := Tryd.zeroValue23
  t46 := Tryd.underlying99
  a46 := Tryd.isAgg99
  z46 := Tryd.sizeOf99
  v46 := Tryd.zeroValue99
  t51 := Tryd.underlying107
  a51 := Tryd.isAgg107
  z51 := Tryd.sizeOf107
  v51 := Tryd.zeroValue107
  t105 := Tryd.underlying93
  a105 := Tryd.isAgg93
  z105 := Tryd.sizeOf93
  v105 := Tryd.zeroValue93
  t119 := Tryd.underlying110
  a119 := Tryd.isAgg110
  z119 := Tryd.sizeOf110
  t138 := Tryd.underlying112
  a138 := Tryd.isAgg112
  z138 := Tryd.sizeOf112
  v138 := Tryd.zeroValue112
  t139 := Tryd.underlying113
  a139 := Tryd.isAgg113
  z139 := Tryd.sizeOf113
  v139 := Tryd.zeroValue113
  t146 := Tryd.underlying108
  a146 := Tryd.isAgg108
  z146 := Tryd.sizeOf108
  v146 := Tryd.zeroValue108
  g1 := by kernel_rfl
  g3 := by kernel_rfl
  g4 := by kernel_rfl }
open Go.RowKit Go.Lib in
theorem Tryd.strings_Split (s sep : ByteArray) (m : Int) (w : World) (hs : s.size < 4294967281) (hm : w.cell? ⟨0, 0, none⟩ = some (.int .i64 m)) (h1 : 1 ≤ sep.size) :
    Calls Tryd.prog 57 #[.string s, .string sep] w fun e w' =>
      e = .returned (.slice (some ⟨w.heap.size, 0, none⟩) (Lib.countB s sep + 1) (Lib.countB s sep + 1)) ∧ w' = w.alloc (.cells ((Lib.splitB sep 0 (Lib.countB s sep) s).map Value.string).toArray 9) := Any.strings_Split Tryd.lays146 (by kernel_rfl) s sep m w hs hm h1
def Tryd.lays155_ren : Go.Shelf.Ren := ⟨fun | 155 => 38 | 154 => 54 | 138 => 65 | 165 => 59 | 143 => 66 | 166 => 60 | 197 => 67 | 169 => 61 | 195 => 77 | 218 => 78 | 240 => 71 | 241 => 72 | 219 => 63 | 260 => 79 | 276 => 83 | 277 => 84 | 217 => 68 | 225 => 74 | 224 => 75 | 267 => 76 | 266 => 80 | 314 => 86 | n => n, fun | 9 => 9 | 3 => 3 | 4 => 4 | 72 => 85 | 0 => 0 | 76 => 89 | 105 => 93 | 21 => 21 | 5 => 5 | 70 => 83 | 20 => 20 | 37 => 41 | 75 => 88 | 127 => 97 | 164 => 103 | 46 => 99 | 119 => 110 | 139 => 113 | 138 => 112 | 146 => 108 | 51 => 107 | 80 => 71 | n => n, fun | 1 => 0 | 3 => 1 | 4 => 2 | n => n⟩
theorem Tryd.lays155 : Go.Proofs.Lays.n155 Tryd.prog Tryd.lays155_ren := {
  mixed := by kernel_rfl
  f138 := Tryd.func65.trans (congrArg some (by kernel_rfl))
  f143 := Tryd.func66.trans (congrArg some (by kernel_rfl))
  f154 := Tryd.func54.trans (congrArg some (by kernel_rfl))
  f155 := Tryd.func38.trans (congrArg some (by kernel_rfl))
  f165 := Tryd.func59.trans (congrArg some (by kernel_rfl))
  f166 := Tryd.func60.trans (congrArg some (by kernel_rfl))
  f169 := Tryd.func61.trans (congrArg some (by kernel_rfl))
  f195 := Tryd.func77.trans (congrArg some (by kernel_rfl))
  f197 := Tryd.func67.trans (congrArg some (by kernel_rfl))
  f217 := Tryd.func68.trans (congrArg some (by kernel_rfl))
  f218 := Tryd.func78.trans (congrArg some (by kernel_rfl))
  f219 := Tryd.func63.trans (congrArg some (by kernel_rfl))
  f224 := Tryd.func75.trans (congrArg some (by kernel_rfl))
  f225 := Tryd.func74.trans (congrArg some (by kernel_rfl))
  f240 := Tryd.func71.trans (congrArg some (by kernel_rfl))
  f241 := Tryd.func72.trans (congrArg some (by kernel_rfl))
  f260 := Tryd.func79.trans (congrArg some (by kernel_rfl))
  f266 := Tryd.func80.trans (congrArg some (by kernel_rfl))
  f267 := Tryd.func76.trans (congrArg some (by kernel_rfl))
  f276 := Tryd.func83.trans (congrArg some (by kernel_rfl))
  f277 := Tryd.func84.trans (congrArg some (by kernel_rfl))
  f314 := Tryd.func86.trans (congrArg some (by kernel_rfl))
  t0 := Tryd.underlying0
  a0 := Tryd.isAgg0
  z0 := Tryd.sizeOf0
  v0 := Tryd.zeroValue0
  t3 := Tryd.underlying3
  a3 := Tryd.isAgg3
  z3 := Tryd.sizeOf3
  v3 := Tryd.zeroValue3
  t4 := Tryd.underlying4
  a4 := Tryd.isAgg4
  z4 := Tryd.sizeOf4
  v4 := Tryd.zeroValue4
  t5 := Tryd.underlying5
  a5 := Tryd.isAgg5
  z5 := Tryd.sizeOf5
  v5 := Tryd.zeroValue5
  t9 := Tryd.underlying9
  a9 := Tryd.isAgg9
  z9 := Tryd.sizeOf9
  v9 := Tryd.zeroValue9
  t20 := Tryd.underlying20
  a20 := Tryd.isAgg20
  z20 := Tryd.sizeOf20
  v20 := Tryd.zeroValue20
  t21 := Tryd.underlying21
  a21 := Tryd.isAgg21
  z21 := Tryd.sizeOf21
  v21 := Tryd.zeroValue21
  t37 := Tryd.underlying41
  a37 := Tryd.isAgg41
  z37 := Tryd.sizeOf41
  v37 := Tryd.zeroValue41
  t46 := Tryd.underlying99
  a46 := Tryd.isAgg99
  z46 := Tryd.sizeOf99
  v46 := Tryd.zeroValue99
  t51 := Tryd.underlying107
  a51 := Tryd.isAgg107
  z51 := Tryd.sizeOf107
  v51 := Tryd.zeroValue107
  t70 := Tryd.underlying83
  a70 := Tryd.isAgg83
  z70 := Tryd.sizeOf83
  v70 := Tryd.zeroValue83
  t72 := Tryd.underlying85
  a72 := Tryd.isAgg85
  z72 := Tryd.sizeOf85
  v72 := Tryd.zeroValue85
  t75 := Tryd.underlying88
  a75 := Tryd.isAgg88
  z75 := Tryd.sizeOf88
  v75 := Tryd.zeroValue88
  t76 := Tryd.underlying89
  a76 := Tryd.isAgg89
  z76 := Tryd.sizeOf89
  v76 := Tryd.zeroValue89
  t105 := Tryd.underlying93
  a105 := Tryd.isAgg93
  z105 := Tryd.sizeOf93
  v105 := Tryd.zeroValue93
  t119 := Tryd.underlying110
  a119 := Tryd.isAgg110
  z119 := Tryd.sizeOf110
  t127 := Tryd.underlying97
  a127 := Tryd.isAgg97
  z127 := Tryd.sizeOf97
  v127 := Tryd.zeroValue97
  t138 := Tryd.underlying112
  a138 := Tryd.isAgg112
  z138 := Tryd.sizeOf112
  v138 := Tryd.zeroValue112
  t139 := Tryd.underlying113
  a139 := Tryd.isAgg113
  z139 := Tryd.sizeOf113
  v139 := Tryd.zeroValue113
  t146 := Tryd.underlying108
  a146 := Tryd.isAgg108
  z146 := Tryd.sizeOf108
  v146 := Tryd.zeroValue108
  t164 := Tryd.underlying103
  a164 := Tryd.isAgg103
  z164 := Tryd.sizeOf103
  v164 := Tryd.zeroValue103
  g1 := by kernel_rfl
  g3 := by kernel_rfl
  g4 := by kernel_rfl }
theorem Tryd.Builder_Extra_155 : Builder.Extra Tryd.prog Tryd.lays155_ren := {
  sizeBuilder := by kernel_rfl
  liesBuilder := by kernel_rfl
  t5 := Tryd.underlying5
  a5 := Tryd.isAgg5
  z5 := Tryd.sizeOf5
  v5 := Tryd.zeroValue5
  infoByte := by kernel_rfl
  cellsByte := by kernel_rfl
  sizeByte := by kernel_rfl
  neB5 := by decide }
open Go.RowKit Go.Lib in
theorem Tryd.strings_ReplaceAll (s old new : ByteArray) (m : Int) (w : World) (hs : s.size < 4294967281) (hm : w.cell? ⟨0, 0, none⟩ = some (.int .i64 m)) (h1 : 1 ≤ old.size) (hlen : s.size + Lib.countB s old * new.size ≤ 140737488355328) :
    Calls Tryd.prog 38 #[.string s, .string old, .string new] w fun e w' =>
      e = .returned (.string ⟨(Lib.replaceAll s.data.toList old.data.toList new.data.toList).toArray⟩) ∧ Below w.heap.size w w' := Any.strings_ReplaceAll Tryd.lays155 Tryd.Builder_Extra_155 s old new m w hs hm h1 hlen
def Tryd.lays229_ren : Go.Shelf.Ren := ⟨fun | 229 => 34 | n => n, fun | 9 => 9 | 40 => 64 | 31 => 23 | 152 => 77 | 3 => 3 | 0 => 0 | 4 => 4 | 21 => 21 | 154 => 79 | n => n, fun | n => n⟩
theorem Tryd.lays229 : Go.Proofs.Lays.n229 Tryd.prog Tryd.lays229_ren := {
  mixed := by kernel_rfl
  f229 := Tryd.func34.trans (congrArg some (by kernel_rfl))
  t0 := Tryd.underlying0
  a0 := Tryd.isAgg0
  z0 := Tryd.sizeOf0
  v0 := Tryd.zeroValue0
  t3 := Tryd.underlying3
  a3 := Tryd.isAgg3
  z3 := Tryd.sizeOf3
  v3 := Tryd.zeroValue3
  t4 := Tryd.underlying4
  a4 := Tryd.isAgg4
  z4 := Tryd.sizeOf4
  v4 := Tryd.zeroValue4
  t9 := Tryd.underlying9
  a9 := Tryd.isAgg9
  z9 := Tryd.sizeOf9
  v9 := Tryd.zeroValue9
  t21 := Tryd.underlying21
  a21 := Tryd.isAgg21
  z21 := Tryd.sizeOf21
  v21 := Tryd.zeroValue21
  t31 := Tryd.underlying23
  a31 := Tryd.isAgg23
  z31 := Tryd.sizeOf23
  v31 := Tryd.zeroValue23
  t40 := Tryd.underlying64
  a40 := Tryd.isAgg64
  z40 := Tryd.sizeOf64
  v40 := Tryd.zeroValue64
  t152 := Tryd.underlying77
  a152 := Tryd.isAgg77
  z152 := Tryd.sizeOf77
  v152 := Tryd.zeroValue77
  t154 := Tryd.underlying79
  a154 := Tryd.isAgg79
  z154 := Tryd.sizeOf79
  v154 := Tryd.zeroValue79 }
open Go.RowKit Go.Lib in
theorem Tryd.strings_FieldsFunc_grows (g : Nat) (lb : Array Value) (eg : ∀ args w, (callFunc g args).run Tryd.prog w = .ok (.enter g args) w) (p : Nat → Bool) (s : ByteArray) (w : World) (hs : s.size ≤ 4294967296) (hp : PredGrows Tryd.prog g lb p w) :
    Calls Tryd.prog 34 #[.string s, .func (.func g) #[] lb] w fun e w' => ∃ A, e = .returned (.slice (some ⟨A, 0, none⟩) (Lib.goFieldsP p s).length (Lib.goFieldsP p s).length) ∧ w.heap.size ≤ A ∧
      w'.ownsRow w.heap.size 9 1 (.slice (some ⟨A, 0, none⟩) (Lib.goFieldsP p s).length (Lib.goFieldsP p s).length) (Lib.goFieldsP p s).length ((Lib.goFieldsP p s).map Value.string) ∧ Below w.heap.size w w' := Any.strings_FieldsFunc_grows Tryd.lays229 g lb eg p s w hs hp (by kernel_rfl) (by kernel_rfl)
def Tryd.lays110_ren : Go.Shelf.Ren := ⟨fun | 110 => 70 | 109 => 82 | n => n, fun | 31 => 23 | 9 => 9 | 4 => 4 | 3 => 3 | 0 => 0 | n => n, fun | n => n⟩
theorem Tryd.lays110 : Go.Proofs.Lays.n110 Tryd.prog Tryd.lays110_ren := {
  mixed := by kernel_rfl
  f109 := Tryd.func82.trans (congrArg some (by kernel_rfl))
  f110 := Tryd.func70.trans (congrArg some (by kernel_rfl))
  t0 := Tryd.underlying0
  a0 := Tryd.isAgg0
  z0 := Tryd.sizeOf0
  v0 := Tryd.zeroValue0
  t3 := Tryd.underlying3
  a3 := Tryd.isAgg3
  z3 := Tryd.sizeOf3
  v3 := Tryd.zeroValue3
  t4 := Tryd.underlying4
  a4 := Tryd.isAgg4
  z4 := Tryd.sizeOf4
  v4 := Tryd.zeroValue4
  t9 := Tryd.underlying9
  a9 := Tryd.isAgg9
  z9 := Tryd.sizeOf9
  v9 := Tryd.zeroValue9
  t31 := Tryd.underlying23
  a31 := Tryd.isAgg23
  z31 := Tryd.sizeOf23
  v31 := Tryd.zeroValue23 }
open Go.Lib in
theorem Tryd.slices_Contains_string (b off n c : Nat) (zs : List ByteArray) (x : ByteArray) (w : World) (hz : n ≤ zs.length) (hbig : n ≤ 9223372036854775807) (hc : ∀ j, j < zs.length → w.cell? ⟨b, off + j, none⟩ = some (.string (zs.getD j ByteArray.empty))) :
    Calls Tryd.prog 70 #[.slice (some ⟨b, off, none⟩) n c, .string x] w fun e w' => e = .returned (.bool (Lib.containsS (zs.take n) x)) ∧ w' = w := Any.slices_Contains_string Tryd.lays110 b off n c zs x w hz hbig hc
open Go.Lib in
theorem Tryd.slices_Contains_string_empty (a : Option Addr) (c : Nat) (x : ByteArray) (w : World) :
    Calls Tryd.prog 70 #[.slice a 0 c, .string x] w fun e w' => e = .returned (.bool false) ∧ w' = w := Any.slices_Contains_string_empty Tryd.lays110 a c x w
end Go.Proofs

/- What bytes are; names, words. -/
namespace Go.Proofs.YtmhkmoeailamlaaDoor
open Go Go.Proofs Go.Ua Go.Extern
set_option linter.unusedVariables false
set_option linter.unusedSimpArgs false

def smallN (n : Int) : Bool := decide (97 ≤ n) && decide (n ≤ 122)
def greatN (n : Int) : Bool := decide (65 ≤ n) && decide (n ≤ 90)
def digitN (n : Int) : Bool := decide (48 ≤ n) && decide (n ≤ 57)
def plainN (n : Int) : Bool := smallN n || digitN n

theorem small_spec (n : Int) : ESpec Tryd.prog 49 [.d (.s (.int .u8 n))] (fun x => x = .d (.s (.bool (smallN n)))) := by
  obtain ⟨z, hz⟩ : ∃ z, z = smallN n := ⟨_, rfl⟩
  rw [← hz]
  refine ESpec.enter Tryd.func49 (by kernel_rfl) rfl (Nat.le_of_ble_eq_true rfl) fun _ cx hnt hfr => ?_
  obtain ⟨F, hF⟩ := real_ex
  refine AK.run hF tabOK hnt ?_
  conv => arg 4; cbv
  cases h1 : F .leI 97 n
  · conv => arg 4; cbv
    rw [show z = false by rw [hz, smallN, decide_eq_false (leI0 hF h1)]; rfl]
    exact AKp.doneE tabOK hfr (by rfl) (by rfl)
  · conv => arg 4; cbv
    rw [show F .leI n 122 = z by rw [hz, smallN, decide_eq_true (leI1 hF h1), l_leI hF]; rfl]
    exact AKp.doneE tabOK hfr (by rfl) (by rfl)

theorem great_spec (n : Int) : ESpec Tryd.prog 50 [.d (.s (.int .u8 n))] (fun x => x = .d (.s (.bool (greatN n)))) := by
  obtain ⟨z, hz⟩ : ∃ z, z = greatN n := ⟨_, rfl⟩
  rw [← hz]
  refine ESpec.enter Tryd.func50 (by kernel_rfl) rfl (Nat.le_of_ble_eq_true rfl) fun _ cx hnt hfr => ?_
  obtain ⟨F, hF⟩ := real_ex
  refine AK.run hF tabOK hnt ?_
  conv => arg 4; cbv
  cases h1 : F .leI 65 n
  · conv => arg 4; cbv
    rw [show z = false by rw [hz, greatN, decide_eq_false (leI0 hF h1)]; rfl]
    exact AKp.doneE tabOK hfr (by rfl) (by rfl)
  · conv => arg 4; cbv
    rw [show F .leI n 90 = z by rw [hz, greatN, decide_eq_true (leI1 hF h1), l_leI hF]; rfl]
    exact AKp.doneE tabOK hfr (by rfl) (by rfl)

theorem digit_spec (n : Int) : ESpec Tryd.prog 51 [.d (.s (.int .u8 n))] (fun x => x = .d (.s (.bool (digitN n)))) := by
  obtain ⟨z, hz⟩ : ∃ z, z = digitN n := ⟨_, rfl⟩
  rw [← hz]
  refine ESpec.enter Tryd.func51 (by kernel_rfl) rfl (Nat.le_of_ble_eq_true rfl) fun _ cx hnt hfr => ?_
  obtain ⟨F, hF⟩ := real_ex
  refine AK.run hF tabOK hnt ?_
  conv => arg 4; cbv
  cases h1 : F .leI 48 n
  · conv => arg 4; cbv
    rw [show z = false by rw [hz, digitN, decide_eq_false (leI0 hF h1)]; rfl]
    exact AKp.doneE tabOK hfr (by rfl) (by rfl)
  · conv => arg 4; cbv
    rw [show F .leI n 57 = z by rw [hz, digitN, decide_eq_true (leI1 hF h1), l_leI hF]; rfl]
    exact AKp.doneE tabOK hfr (by rfl) (by rfl)

theorem plain_spec (n : Int) : ESpec Tryd.prog 55 [.d (.s (.int .u8 n))] (fun x => x = .d (.s (.bool (plainN n)))) := by
  obtain ⟨z, hz⟩ : ∃ z, z = plainN n := ⟨_, rfl⟩
  rw [← hz]
  unfold plainN smallN digitN at hz
  refine ESpec.enter Tryd.func55 (by kernel_rfl) rfl (Nat.le_of_ble_eq_true rfl) fun _ cx hnt hfr => ?_
  obtain ⟨F, hF⟩ := real_ex
  refine AK.run hF tabOK hnt ?_
  conv => arg 4; cbv
  have second : ∀ (w : Bool), (F .leI 48 n = true → w = F .leI n 57) → (F .leI 48 n = false → w = false) → (decide (48 ≤ n) && decide (n ≤ 57)) = w := by
    intro w h1 h2
    rw [l_leI hF, l_leI hF] at *
    cases h : decide (48 ≤ n)
    · rw [h2 h]; rfl
    · rw [h1 h]; rfl
  cases h1 : F .leI 97 n
  case' true =>
    conv => arg 4; cbv
    cases h2 : F .leI n 122
    case' true =>
      conv => arg 4; cbv
      rw [show z = true by rw [hz, decide_eq_true (leI1 hF h1), decide_eq_true (leI1 hF h2)]; rfl]
      exact AKp.doneE tabOK hfr (by rfl) (by rfl)
  all_goals
    conv => arg 4; cbv
    cases h3 : F .leI 48 n
    · conv => arg 4; cbv
      first
        | rw [show z = false by rw [hz, decide_eq_false (leI0 hF h1), decide_eq_false (leI0 hF h3)]; rfl]
        | rw [show z = false by rw [hz, decide_eq_false (leI0 hF h2), decide_eq_false (leI0 hF h3), Bool.and_false]; rfl]
      exact AKp.doneE tabOK hfr (by rfl) (by rfl)
    · conv => arg 4; cbv
      first
        | rw [show F .leI n 57 = z by rw [hz, decide_eq_false (leI0 hF h1), decide_eq_true (leI1 hF h3), l_leI hF]; rfl]
        | rw [show F .leI n 57 = z by rw [hz, decide_eq_false (leI0 hF h2), decide_eq_true (leI1 hF h3), l_leI hF, Bool.and_false]; rfl]
      exact AKp.doneE tabOK hfr (by rfl) (by rfl)

theorem ib_le : ∀ (l : List UInt8) (c : UInt8), Lib.indexByte l c ≤ l.length
  | [], c => by simp [Lib.indexByte]
  | b :: l, c => by
    have := ib_le l c
    unfold Lib.indexByte
    split
    · simp; omega
    · split
      · simp; omega
      · simp; omega

theorem IndexByte_spec (s : List UInt8) (c : UInt8) : ESpec Tryd.prog 56 [.d (.s (.str s)), .d (.s (.int .u8 c.toNat))] (fun x => x = .d (.s (.int .i64 (Lib.indexByte s c)))) := by
  have base : s.length ≤ maxLen → ESpec Tryd.prog 56 [.d (.s (.str s)), .d (.s (.int .u8 c.toNat))] (fun x => x = .d (.s (.int .i64 (Lib.indexByte s c)))) := by
    intro hs
    have hok : (Sc.int .i64 (Lib.indexByte s c)).ok := by
      have h1 := Lib.indexByte_ge s c
      have h2 := ib_le s c
      have hm : maxLen = 9223372036854775807 := by decide
      exact ⟨by show (-9223372036854775808 : Int) ≤ _; omega, by show _ ≤ (9223372036854775807 : Int); omega⟩
    refine ESpec.grown (enters_of Tryd.func56 (by kernel_rfl) rfl) hok fun R ι vs w hR hG hl hr => ?_
    obtain ⟨v0, v1, rfl⟩ : ∃ v0 v1, vs = [v0, v1] := by
      match vs, hl with
      | [v0, v1], _ => exact ⟨v0, v1, rfl⟩
    obtain rfl := rep_s (hr 0 _ _ rfl rfl)
    obtain rfl := rep_s (hr 1 _ _ rfl rfl)
    refine (Tryd.strings_IndexByte ⟨s.toArray⟩ c.toNat w).mono ?_
    rintro e w' ⟨rfl, rfl⟩
    refine ⟨?_, RowKit.Below.refl _ _⟩
    simp [Sc.val]
  refine ⟨enters_of Tryd.func56 (by kernel_rfl) rfl, fun X L w ι vs h1 hg h2 h3 => (base ?_).2 X L w ι vs h1 hg h2 h3⟩
  match vs, h2 with
  | [v0, v1], _ => exact rep_ok (h3 0 _ _ rfl rfl)
end Go.Proofs.YtmhkmoeailamlaaDoor

/- Names and words, as the program tells them. -/
namespace Go.Proofs.YtmhkmoeailamlaaDoor
open Go Go.Proofs Go.Ua Go.Extern
set_option linter.unusedVariables false
set_option linter.unusedSimpArgs false

theorem ib_neg : ∀ (l : List UInt8) (c : UInt8), decide (Lib.indexByte l c < 0) = !l.contains c
  | [], c => by simp [Lib.indexByte]
  | b :: l, c => by
    have h := ib_neg l c
    have h1 := Lib.indexByte_ge l c
    unfold Lib.indexByte
    by_cases e : b = c
    · subst e
      simp
    · rw [if_neg (by simpa using e)]
      have e2 : (b :: l).contains c = l.contains c := by
        simp [List.contains_cons]
        intro h
        exact absurd h.symm e
      rw [e2, ← h]
      by_cases e3 : Lib.indexByte l c = -1
      · rw [if_pos (by simp [e3]), e3]
      · rw [if_neg (by simpa using e3)]
        have : ¬ Lib.indexByte l c < 0 := by omega
        have : ¬ Lib.indexByte l c + 1 < 0 := by omega
        simp [*]

def marks : List UInt8 := [46, 95, 58, 47, 64, 45]
def wordB (c : UInt8) : Bool := plainN c.toNat || greatN c.toNat || marks.contains c
def wordF (w : List UInt8) : Bool := !(w == []) && decide (w.length ≤ 64) && !(w == [45]) && w.all wordB

theorem all_take_succ {α : Type} {p : α → Bool} {l : List α} {i : Nat} {c : α} (h : l[i]? = some c) (ht : (l.take i).all p = true) (hc : p c = true) : (l.take (i + 1)).all p = true := by
  rw [List.take_add_one, h]
  simp [ht, hc]
theorem all_false {α : Type} {p : α → Bool} {l : List α} {i : Nat} {c : α} (h : l[i]? = some c) (hc : p c = false) : l.all p = false := by
  rw [List.all_eq_false]
  exact ⟨c, List.mem_of_getElem? h, by simp [hc]⟩

theorem Word_spec (w : List UInt8) : ESpec Tryd.prog 41 [.d (.s (.str w))] (fun x => x = .d (.s (.bool (wordF w)))) := by
  obtain ⟨z, hz⟩ : ∃ z, z = wordF w := ⟨_, rfl⟩
  rw [← hz]
  unfold wordF at hz
  refine ESpec.enter Tryd.func41 (by kernel_rfl) rfl (Nat.le_of_ble_eq_true rfl) fun hok cx hnt hfr => ?_
  have hwl : w.length ≤ maxLen := hok.1
  have hm : maxLen = 9223372036854775807 := by decide
  obtain ⟨F, hF⟩ := real_ex
  refine AK.run hF tabOK hnt ?_
  conv => arg 4; cbv
  cases h1 : F .eqS w []
  case' true =>
    conv => arg 4; cbv
    rw [show z = false by rw [hz, eqS1 hF h1]; rfl]
    exact AKp.doneE tabOK hfr (by rfl) (by rfl)
  case' false =>
  conv => arg 4; cbv
  cases h2 : F .ltI 64 (F .lenS w)
  case' true =>
    have h2' := ltI1 hF h2
    rw [l_lenS hF] at h2'
    conv => arg 4; cbv
    rw [show z = false by rw [hz, decide_eq_false (show ¬ w.length ≤ 64 by omega)]; simp]
    exact AKp.doneE tabOK hfr (by rfl) (by rfl)
  case' false =>
  have h2' := ltI0 hF h2
  rw [l_lenS hF] at h2'
  conv => arg 4; cbv
  cases h3 : F .eqS w [45]
  case' true =>
    conv => arg 4; cbv
    rw [show z = false by rw [hz, eqS1 hF h3]; rfl]
    exact AKp.doneE tabOK hfr (by rfl) (by rfl)
  case' false =>
  have hz2 : z = w.all wordB := by
    rw [hz, decide_eq_true (show w.length ≤ 64 by omega)]
    have e1 : (w == []) = false := by simpa using eqS0 hF h1
    have e2 : (w == [45]) = false := by simpa using eqS0 hF h3
    rw [e1, e2]; simp
  conv => arg 4; cbv
  refine AKp.enterLoop 18 ?_
  conv => arg 7; cbv
  refine AKl.inv hF tabOK hnt hfr (fun n vs hs => ∃ (i : Nat) (iv : Int), i + n = w.length ∧ iv = i ∧ (w.take i).all wordB = true ∧ vs = [(18, .d (.s (.int .i64 iv)))] ∧ hs = []) w.length
    ⟨0, _, by omega, rfl, by simp, rfl, rfl⟩ (by repeat (first | exact True.intro | refine ⟨⟨rfl, rfl⟩, ?_⟩)) (by repeat (first | exact True.intro | refine ⟨⟨rfl, rfl, rfl⟩, ?_⟩)) ?_
  rintro J n vs hs hJ ⟨i, iv, hi, hiv, hall, rfl, rfl⟩
  conv => arg 4; cbv
  cases hb : F .ltI iv (F .lenS w)
  case' false =>
    have hlt := ltI0 hF hb
    rw [l_lenS hF] at hlt
    conv => arg 4; cbv
    rw [show z = true by rw [hz2, ← hall, List.take_of_length_le (by omega)]]
    exact AKp.doneE tabOK hfr (by rfl) (by rfl)
  case' true =>
    have hlt := ltI1 hF hb
    rw [l_lenS hF] at hlt
    have hil : i < w.length := by omega
    obtain ⟨c, hc⟩ : ∃ c, w[i]? = some c := ⟨_, List.getElem?_eq_getElem hil⟩
    have sp := plain_spec c.toNat
    have si := IndexByte_spec [46, 95, 58, 47, 64, 45] c
    have hib : decide (Lib.indexByte [46, 95, 58, 47, 64, 45] c < 0) = !marks.contains c := ib_neg _ c
    have hg := l_getS hF hc hiv
    obtain ⟨wb, hwb⟩ : ∃ z, z = wordB c := ⟨_, rfl⟩
    unfold wordB at hwb
    obtain ⟨cv, hcv⟩ : ∃ z : Int, z = c.toNat := ⟨_, rfl⟩
    obtain ⟨ix, hix⟩ : ∃ z : Int, z = Lib.indexByte [46, 95, 58, 47, 64, 45] c := ⟨_, rfl⟩
    obtain ⟨pb, hpb⟩ : ∃ z, z = plainN c.toNat := ⟨_, rfl⟩
    rw [← hpb] at sp hwb
    rw [← hcv] at sp si hg hwb
    rw [← hix] at si hib
    have hnext : wb = true → (w.take (i + 1)).all wordB = true := fun h => all_take_succ hc hall (by rw [← h, hwb, hpb, hcv]; rfl)
    have hend : wb = false → z = false := fun h => by rw [hz2]; exact all_false hc (by rw [← h, hwb, hpb, hcv]; rfl)
    conv => arg 4; cbv
    rw [hg]
    conv => arg 4; cbv
    refine AKp.call hF tabOK hnt sp rfl rfl rfl rfl rfl rfl rfl (by repeat' first | exact .refl _ | constructor) ?_
    rintro _ rfl
    conv => arg 4; cbv
    cases pb
    case' true =>
      rw [l_not1 hF]
      conv => arg 4; cbv
      refine AKp.again _ hfr (by repeat (first | exact True.intro | refine ⟨⟨rfl, rfl⟩, ?_⟩)) (by repeat (first | exact True.intro | refine ⟨⟨rfl, rfl, rfl⟩, ?_⟩)) (hJ (n - 1) _ _ (by omega) ⟨i + 1, _, by omega, inc_i hF hiv (by omega), hnext (by rw [hwb]; rfl), rfl, rfl⟩)
    case' false =>
      rw [l_not0 hF]
      conv => arg 4; cbv
      have last : ∀ g : Bool, greatN cv = false → wb = marks.contains c := fun _ h => by rw [hwb, h]; rfl
      cases h5 : F .ltI cv 65
      case' false =>
        conv => arg 4; cbv
        cases h6 : F .ltI 90 cv
        case' false =>
          conv => arg 4; cbv
          refine AKp.again _ hfr (by repeat (first | exact True.intro | refine ⟨⟨rfl, rfl⟩, ?_⟩)) (by repeat (first | exact True.intro | refine ⟨⟨rfl, rfl, rfl⟩, ?_⟩)) (hJ (n - 1) _ _ (by omega) ⟨i + 1, _, by omega, inc_i hF hiv (by omega), hnext (by
            have g1 := ltI0 hF h5
            have g2 := ltI0 hF h6
            rw [hwb, greatN, decide_eq_true (show 65 ≤ cv by omega), decide_eq_true (show cv ≤ 90 by omega)]; rfl), rfl, rfl⟩)
        case' true =>
          have hgr : greatN cv = false := by
            have g2 := ltI1 hF h6
            rw [greatN, decide_eq_false (show ¬ cv ≤ 90 by omega), Bool.and_false]
      case' true =>
        have hgr : greatN cv = false := by
          have g2 := ltI1 hF h5
          rw [greatN, decide_eq_false (show ¬ 65 ≤ cv by omega)]; rfl
      all_goals
        conv => arg 4; cbv
        refine AKp.call hF tabOK hnt si rfl rfl rfl rfl rfl rfl rfl (by repeat' first | exact .refl _ | constructor) ?_
        rintro _ rfl
        conv => arg 4; cbv
        have hw2 := last true hgr
        cases h7 : F .ltI ix 0
        · have h7' := ltI0 hF h7
          rw [decide_eq_false h7'] at hib
          conv => arg 4; cbv
          have hx : marks.contains c = true := by
            generalize marks.contains c = x at hib ⊢
            cases x
            · exact absurd hib (by decide)
            · rfl
          refine AKp.again _ hfr (by repeat (first | exact True.intro | refine ⟨⟨rfl, rfl⟩, ?_⟩)) (by repeat (first | exact True.intro | refine ⟨⟨rfl, rfl, rfl⟩, ?_⟩)) (hJ (n - 1) _ _ (by omega) ⟨i + 1, _, by omega, inc_i hF hiv (by omega), hnext (by rw [hw2]; exact hx), rfl, rfl⟩)
        · have h7' := ltI1 hF h7
          rw [decide_eq_true h7'] at hib
          conv => arg 4; cbv
          have hx : marks.contains c = false := by
            generalize marks.contains c = x at hib ⊢
            cases x
            · rfl
            · exact absurd hib (by decide)
          rw [hend (by rw [hw2]; exact hx)]
          exact AKp.doneE tabOK hfr (by rfl) (by rfl)
end Go.Proofs.YtmhkmoeailamlaaDoor

/- Names; numbers. -/
namespace Go.Proofs.YtmhkmoeailamlaaDoor
open Go Go.Proofs Go.Ua Go.Extern
set_option linter.unusedVariables false
set_option linter.unusedSimpArgs false

def nameB (c : UInt8) : Bool := plainN c.toNat || ((c.toNat : Int) == 45)
def nameF (w : List UInt8) : Bool := match w with
  | [] => false
  | c :: _ => decide (w.length ≤ 32) && smallN c.toNat && w.all nameB

end Go.Proofs.YtmhkmoeailamlaaDoor

/- Numbers. -/
namespace Go.Proofs.YtmhkmoeailamlaaDoor
open Go Go.Proofs Go.Ua Go.Extern
set_option linter.unusedVariables false
set_option linter.unusedSimpArgs false

def digB (c : UInt8) : Bool := digitN c.toNat
def valN (w : List UInt8) : Nat := w.foldl (fun n c => 10 * n + (c.toNat - 48)) 0
/-- It has a number's form. -/
def numForm (w : List UInt8) : Bool := decide (1 ≤ w.length) && decide (w.length ≤ 9) && !(decide (1 < w.length) && decide (w[0]? = some 48)) && w.all digB
def numberF (w : List UInt8) (least most : Int) : Option Int := if numForm w = true ∧ least ≤ (valN w : Int) ∧ (valN w : Int) ≤ most then some (valN w : Int) else none
def optAV : Option Int → AV
  | some n => .tup [.d (.s (.int .i64 n)), .d (.s (.bool true))]
  | none => .tup [.d (.s (.int .i64 0)), .d (.s (.bool false))]

theorem valN_take {w : List UInt8} {i : Nat} {c : UInt8} (h : w[i]? = some c) : valN (w.take (i + 1)) = 10 * valN (w.take i) + (c.toNat - 48) := by
  rw [List.take_add_one, h]
  simp [valN, List.foldl_append]
theorem digB_le {c : UInt8} (h : digB c = true) : 48 ≤ c.toNat ∧ c.toNat ≤ 57 := by
  unfold digB digitN at h
  simp only [Bool.and_eq_true, decide_eq_true_eq] at h
  omega
theorem valN_lt {w : List UInt8} : ∀ (i : Nat), i ≤ w.length → (w.take i).all digB = true → valN (w.take i) < 10 ^ i := by
  intro i
  induction i with
  | zero => intro _ _; simp [valN]
  | succ i ih =>
    intro hi hall
    obtain ⟨c, hc⟩ : ∃ c, w[i]? = some c := ⟨_, List.getElem?_eq_getElem (by omega)⟩
    rw [List.take_add_one, hc] at hall
    simp only [Option.toList_some, List.all_append, Bool.and_eq_true, List.all_cons, List.all_nil, Bool.and_true] at hall
    have := ih (by omega) hall.1
    have h2 := digB_le hall.2
    rw [valN_take hc, Nat.pow_succ]
    omega

theorem Number_spec (w : List UInt8) (least most : Int) : ESpec Tryd.prog 39 [.d (.s (.str w)), .d (.s (.int .i64 least)), .d (.s (.int .i64 most))] (fun x => x = optAV (numberF w least most)) := by
  obtain ⟨z, hz⟩ : ∃ z, z = optAV (numberF w least most) := ⟨_, rfl⟩
  rw [← hz]
  refine ESpec.enter Tryd.func39 (by kernel_rfl) rfl (Nat.le_of_ble_eq_true rfl) fun hok cx hnt hfr => ?_
  have hwl : w.length ≤ maxLen := hok.1
  have hm : maxLen = 9223372036854775807 := by decide
  have bad : numForm w = false → z = .tup [.d (.s (.int .i64 0)), .d (.s (.bool false))] := fun h => by rw [hz, numberF, if_neg (by rw [h]; simp)]; rfl
  obtain ⟨F, hF⟩ := real_ex
  refine AK.run hF tabOK hnt ?_
  conv => arg 4; cbv
  cases h1 : F .ltI (F .lenS w) 1
  case' true =>
    have h1' := ltI1 hF h1
    rw [l_lenS hF] at h1'
    conv => arg 4; cbv
    rw [bad (by unfold numForm; rw [decide_eq_false (show ¬ 1 ≤ w.length by omega)]; rfl)]
    exact AKp.doneE tabOK hfr (by rfl) (by rfl)
  case' false =>
  have h1' := ltI0 hF h1
  rw [l_lenS hF] at h1'
  conv => arg 4; cbv
  cases h2 : F .ltI 9 (F .lenS w)
  case' true =>
    have h2' := ltI1 hF h2
    rw [l_lenS hF] at h2'
    conv => arg 4; cbv
    rw [bad (by unfold numForm; rw [decide_eq_false (show ¬ w.length ≤ 9 by omega)]; simp)]
    exact AKp.doneE tabOK hfr (by rfl) (by rfl)
  case' false =>
  have h2' := ltI0 hF h2
  rw [l_lenS hF] at h2'
  obtain ⟨c0, hc0⟩ : ∃ c, w[0]? = some c := ⟨_, List.getElem?_eq_getElem (by omega)⟩
  have hg0 := l_getS hF (iv := 0) hc0 rfl
  obtain ⟨c0v, hc0v⟩ : ∃ z : Int, z = c0.toNat := ⟨_, rfl⟩
  rw [← hc0v] at hg0
  conv => arg 4; cbv
  -- the first byte
  have lead : ¬ (1 < w.length ∧ w[0]? = some 48) → numForm w = w.all digB := by
    intro h
    unfold numForm
    rw [decide_eq_true (show 1 ≤ w.length by omega), decide_eq_true (show w.length ≤ 9 by omega)]
    have : (decide (1 < w.length) && decide (w[0]? = some 48)) = false := by
      rw [← Bool.decide_and]; exact decide_eq_false h
    rw [this]; simp
  cases h3 : F .ltI 1 (F .lenS w)
  case' true =>
    have h3' := ltI1 hF h3
    rw [l_lenS hF] at h3'
    conv => arg 4; cbv
    rw [hg0]
    conv => arg 4; cbv
    cases h4 : F .eqI c0v 48
    case' true =>
      have h4' := eqI1 hF h4
      conv => arg 4; cbv
      rw [bad (by
        unfold numForm
        have e : c0 = 48 := UInt8.toNat_inj.1 (by rw [hc0v] at h4'; simp; omega)
        rw [hc0, e, decide_eq_true (show 1 < w.length by omega)]; simp)]
      exact AKp.doneE tabOK hfr (by rfl) (by rfl)
    case' false =>
    have h4' := eqI0 hF h4
    have hlead := lead (by
      rintro ⟨_, h⟩
      rw [hc0] at h
      cases h
      exact h4' (by rw [hc0v]; rfl))
  case' false =>
    have h3' := ltI0 hF h3
    rw [l_lenS hF] at h3'
    have hlead := lead (by rintro ⟨h, _⟩; omega)
  all_goals
    conv => arg 4; cbv
    refine AKp.enterLoop 30 ?_
    conv => arg 7; cbv
    refine AKl.inv hF tabOK hnt hfr (fun n vs hs => ∃ (i : Nat) (iv nv : Int), i + n = w.length ∧ iv = i ∧ nv = (valN (w.take i) : Nat) ∧ (w.take i).all digB = true ∧ vs = [(30, .d (.s (.int .i64 iv))), (8, .d (.s (.int .i64 nv)))] ∧ hs = []) w.length
      ⟨0, _, 0, by omega, rfl, by simp [valN], by simp, rfl, rfl⟩ (by repeat (first | exact True.intro | refine ⟨⟨rfl, rfl⟩, ?_⟩)) (by repeat (first | exact True.intro | refine ⟨⟨rfl, rfl, rfl⟩, ?_⟩)) ?_
    rintro J n vs hs hJ ⟨i, iv, nv, hi, hiv, hnv, hall, rfl, rfl⟩
    have hvl := valN_lt i (by omega) hall
    have hp9 : 10 ^ i ≤ 10 ^ 9 := Nat.pow_le_pow_right (by decide) (by omega)
    conv => arg 4; cbv
    cases hb : F .ltI iv (F .lenS w)
    case' false =>
      have hlt := ltI0 hF hb
      rw [l_lenS hF] at hlt
      have htk : w.take i = w := List.take_of_length_le (by omega)
      rw [htk] at hnv hall
      rw [hall] at hlead
      conv => arg 4; cbv
      cases h5 : F .ltI nv least
      case' true =>
        have h5' := ltI1 hF h5
        conv => arg 4; cbv
        rw [show z = .tup [.d (.s (.int .i64 0)), .d (.s (.bool false))] by rw [hz, numberF, if_neg (by rintro ⟨_, h, _⟩; omega)]; rfl]
        exact AKp.doneE tabOK hfr (by rfl) (by rfl)
      case' false =>
      have h5' := ltI0 hF h5
      conv => arg 4; cbv
      cases h6 : F .ltI most nv
      case' true =>
        have h6' := ltI1 hF h6
        conv => arg 4; cbv
        rw [show z = .tup [.d (.s (.int .i64 0)), .d (.s (.bool false))] by rw [hz, numberF, if_neg (by rintro ⟨_, _, h⟩; omega)]; rfl]
        exact AKp.doneE tabOK hfr (by rfl) (by rfl)
      case' false =>
      have h6' := ltI0 hF h6
      conv => arg 4; cbv
      rw [show z = .tup [.d (.s (.int .i64 nv)), .d (.s (.bool true))] by rw [hz, numberF, if_pos ⟨hlead, by omega, by omega⟩, ← hnv]; rfl]
      exact AKp.doneE tabOK hfr (by rfl) (by rfl)
    case' true =>
      have hlt := ltI1 hF hb
      rw [l_lenS hF] at hlt
      have hil : i < w.length := by omega
      obtain ⟨c, hc⟩ : ∃ c, w[i]? = some c := ⟨_, List.getElem?_eq_getElem hil⟩
      have hg := l_getS hF hc hiv
      have hvt := valN_take hc
      have hend : digB c = false → numForm w = false := fun h => by rw [hlead]; exact all_false hc h
      have hnext : digB c = true → (w.take (i + 1)).all digB = true := fun h => all_take_succ hc hall h
      unfold digB digitN at hend hnext
      obtain ⟨cv, hcv⟩ : ∃ z : Int, z = c.toNat := ⟨_, rfl⟩
      rw [← hcv] at hg hend hnext
      conv => arg 4; cbv
      rw [hg]
      conv => arg 4; cbv
      cases h5 : F .ltI cv 48
      case' true =>
        have h5' := ltI1 hF h5
        conv => arg 4; cbv
        rw [bad (hend (by rw [decide_eq_false (show ¬ 48 ≤ cv by omega)]; rfl))]
        exact AKp.doneE tabOK hfr (by rfl) (by rfl)
      case' false =>
      have h5' := ltI0 hF h5
      conv => arg 4; cbv
      rw [hg]
      conv => arg 4; cbv
      cases h6 : F .ltI 57 cv
      case' true =>
        have h6' := ltI1 hF h6
        conv => arg 4; cbv
        rw [bad (hend (by rw [decide_eq_false (show ¬ cv ≤ 57 by omega)]; simp))]
        exact AKp.doneE tabOK hfr (by rfl) (by rfl)
      case' false =>
      have h6' := ltI0 hF h6
      conv => arg 4; cbv
      rw [hg]
      conv => arg 4; cbv
      refine AKp.again _ hfr (by repeat (first | exact True.intro | refine ⟨⟨rfl, rfl⟩, ?_⟩)) (by repeat (first | exact True.intro | refine ⟨⟨rfl, rfl, rfl⟩, ?_⟩)) (hJ (n - 1) _ _ (by omega) ⟨i + 1, _, _, by omega, inc_i hF hiv (by omega), ?_, hnext (by rw [decide_eq_true (show 48 ≤ cv by omega), decide_eq_true (show cv ≤ 57 by omega)]; rfl), rfl, rfl⟩)
      rw [hvt, hF]
      show IntKind.i64.wrap (IntKind.i64.wrap (10 * nv) + IntKind.i64.wrap (IntKind.u8.wrap (cv - 48))) = _
      have hcv2 : cv ≤ 57 := by omega
      rw [w_u8 (by omega) (by omega), w_i64 (n := cv - 48) (by omega) (by omega), w_i64 (n := 10 * nv) (by omega) (by omega), w_i64 (by omega) (by omega)]
      omega
end Go.Proofs.YtmhkmoeailamlaaDoor
