/- The library of this claim and its walks, part 21, joined out of smaller texts. No statement stands in it. -/
import Derived.Test.YtflpgbkdjelaaaaDoorUaM20
import Derived.Shelf.Strings.Builder1
import Derived.Shelf.Strings.Builder2
import Derived.Shelf.Strings.OnBuilder
import Derived.Shelf.Small.Strs
import Derived.Shelf.Strings.BuilderF
import Derived.Shelf.Utf8.RuneCount
import Derived.Shelf.Strconv.Itoa0
import Derived.Shelf.Strconv.Itoa1
import Derived.Shelf.LaysM
import Derived.Shelf.Strconv.Itoa2
import Derived.Shelf.Strconv.Itoa3
import Derived.Shelf.Strings.Search1
import Derived.Shelf.Strings.Search2
import Derived.Shelf.Strings.Search3
import Derived.Shelf.Strings.Count
import Derived.Shelf.Strings.Shaped
import Derived.Shelf.Strings.Prefix
import Derived.Shelf.Strings.Split
import Derived.Shelf.Strings.SplitShaped
import Derived.Shelf.Unicode.DecodeSlow
import Derived.Shelf.Unicode.DecodeAny
import Derived.Shelf.Strings.FieldsFuncAny
import Derived.Shelf.Strings.FieldsFuncGrows
import Derived.Shelf.Slices.Turned
import Derived.Test.YtflpgbkdjelaaaaDoorProg
/- The library's contracts at this program, as the kit's own tool lays them (lay-shelf, lay-plain). -/
namespace Go.Proofs
open Go.Shelf
def Tryd.lays156_ren : Go.Shelf.Ren := ⟨fun | 156 => 38 | 165 => 62 | 166 => 37 | 169 => 24 | 240 => 61 | 241 => 80 | 276 => 79 | 277 => 91 | n => n, fun | 31 => 46 | 9 => 9 | 3 => 3 | 4 => 4 | 0 => 0 | 20 => 20 | 72 => 54 | 76 => 76 | 70 => 51 | 37 => 52 | 75 => 37 | 127 => 82 | 164 => 114 | 5 => 5 | 80 => 62 | n => n, fun | n => n⟩
theorem Tryd.lays156 : Go.Proofs.Lays.n156 Tryd.prog Tryd.lays156_ren := {
  mixed := by kernel_rfl
  f156 := Tryd.func38.trans (congrArg some (by kernel_rfl))
  f165 := Tryd.func62.trans (congrArg some (by kernel_rfl))
  f166 := Tryd.func37.trans (congrArg some (by kernel_rfl))
  f169 := Tryd.func24.trans (congrArg some (by kernel_rfl))
  f240 := Tryd.func61.trans (congrArg some (by kernel_rfl))
  f241 := Tryd.func80.trans (congrArg some (by kernel_rfl))
  f276 := Tryd.func79.trans (congrArg some (by kernel_rfl))
  f277 := Tryd.func91.trans (congrArg some (by kernel_rfl))
  t0 := Tryd.underlying0
  a0 := Tryd.isAgg0
  z0 := Tryd.sizeOf0
  v0 := Tryd.zeroValue0
  t3 := Tryd.underlying3
  a3 := Tryd.isAgg3
  z3 := Tryd.sizeOf3
  v3 := Tryd.zeroValue3
  t4 := Tryd.underlying4
  a4 := Tryd.isAgg4
  z4 := Tryd.sizeOf4
  v4 := Tryd.zeroValue4
  t9 := Tryd.underlying9
  a9 := Tryd.isAgg9
  z9 := Tryd.sizeOf9
  v9 := Tryd.zeroValue9
  t20 := Tryd.underlying20
  a20 := Tryd.isAgg20
  z20 := Tryd.sizeOf20
  v20 := Tryd.zeroValue20
  t31 := Tryd.underlying46
  a31 := Tryd.isAgg46
  z31 := Tryd.sizeOf46
  v31 := Tryd.zeroValue46
  t37 := Tryd.underlying52
  a37 := Tryd.isAgg52
  z37 := Tryd.sizeOf52
  v37 := Tryd.zeroValue52
  t70 := Tryd.underlying51
  a70 := Tryd.isAgg51
  z70 := Tryd.sizeOf51
  v70 := Tryd.zeroValue51
  t72 := Tryd.underlying54
  a72 := Tryd.isAgg54
  z72 := Tryd.sizeOf54
  v72 := Tryd.zeroValue54
  t75 := Tryd.underlying37
  a75 := Tryd.isAgg37
  z75 := Tryd.sizeOf37
  v75 := Tryd.zeroValue37
  t76 := Tryd.underlying76
  a76 := Tryd.isAgg76
  z76 := Tryd.sizeOf76
  v76 := Tryd.zeroValue76
  t127 := Tryd.underlying82
  a127 := Tryd.isAgg82
  z127 := Tryd.sizeOf82
  v127 := Tryd.zeroValue82
  t164 := Tryd.underlying114
  a164 := Tryd.isAgg114
  z164 := Tryd.sizeOf114
  v164 := Tryd.zeroValue114 }
theorem Tryd.Builder_Extra_156 : Builder.Extra Tryd.prog Tryd.lays156_ren := {
  sizeBuilder := by kernel_rfl
  liesBuilder := by kernel_rfl
  t5 := Tryd.underlying5
  a5 := Tryd.isAgg5
  z5 := Tryd.sizeOf5
  v5 := Tryd.zeroValue5
  infoByte := by kernel_rfl
  cellsByte := by kernel_rfl
  sizeByte := by kernel_rfl
  neB5 := by decide }
open Go.RowKit in
theorem Tryd.strings_Join_none (a : Option Addr) (c : Nat) (sep : ByteArray) (w : World) :
    Calls Tryd.prog 38 #[.slice a 0 c, .string sep] w fun e w' => e = .returned (.string ⟨#[]⟩) ∧ w' = w := Any.strings_Join_none Tryd.lays156 Tryd.Builder_Extra_156 a c sep w
open Go.RowKit in
theorem Tryd.strings_Join (bk o c : Nat) (xs : List ByteArray) (sep : ByteArray) (w : World) (hcells : ∀ (j : Nat) x, xs[j]? = some x → w.cell? ⟨bk, o + j, none⟩ = some (.string x)) (hbk : bk < w.heap.size) (hN : xs.length ≤ 140737488355328) (hcap : xs.length ≤ c) (hlen : (Lib.join (xs.map (·.data.toList)) sep.data.toList).length ≤ 140737488355328) :
    Calls Tryd.prog 38 #[.slice (some ⟨bk, o, none⟩) xs.length c, .string sep] w fun e w' => e = .returned (.string ⟨(Lib.join (xs.map (·.data.toList)) sep.data.toList).toArray⟩) ∧ Below w.heap.size w w' := Any.strings_Join Tryd.lays156 Tryd.Builder_Extra_156 bk o c xs sep w hcells hbk hN hcap hlen
def Tryd.lays137_ren : Go.Shelf.Ren := ⟨fun | 137 => 82 | 217 => 96 | 266 => 107 | n => n, fun | 9 => 9 | 5 => 5 | 3 => 3 | n => n, fun | n => n⟩
theorem Tryd.lays137 : Go.Proofs.Lays.n137 Tryd.prog Tryd.lays137_ren := {
  mixed := by kernel_rfl
  f137 := Tryd.func82.trans (congrArg some (by kernel_rfl))
  f217 := Tryd.func96.trans (congrArg some (by kernel_rfl))
  f266 := Tryd.func107.trans (congrArg some (by kernel_rfl))
  t3 := Tryd.underlying3
  a3 := Tryd.isAgg3
  z3 := Tryd.sizeOf3
  v3 := Tryd.zeroValue3
  t5 := Tryd.underlying5
  a5 := Tryd.isAgg5
  z5 := Tryd.sizeOf5
  v5 := Tryd.zeroValue5
  t9 := Tryd.underlying9
  a9 := Tryd.isAgg9
  z9 := Tryd.sizeOf9
  v9 := Tryd.zeroValue9 }
open Go.RowKit in
theorem Tryd.strings_IndexByte (s : ByteArray) (c : Int) (w : World) :
    Calls Tryd.prog 82 #[.string s, .int .u8 c] w fun e w' => e = .returned (.int .i64 (Lib.indexByte s.data.toList c.toNat.toUInt8)) ∧ w' = w := Any.strings_IndexByte Tryd.lays137 s c w
def Tryd.laysM171_ren : Go.Shelf.Ren := ⟨fun | 171 => 40 | 243 => 63 | 246 => 81 | 283 => 92 | 284 => 93 | 285 => 94 | 286 => 95 | 129 => 103 | 317 => 102 | 318 => 104 | 319 => 105 | 320 => 106 | 337 => 113 | 338 => 114 | n => n, fun | 3 => 3 | 9 => 9 | 2 => 2 | 4 => 4 | 171 => 122 | 0 => 0 | 53 => 123 | 37 => 52 | 5 => 5 | 173 => 126 | 212 => 133 | 51 => 134 | 20 => 20 | 213 => 135 | 46 => 137 | 232 => 146 | 233 => 147 | n => n, fun | 17 => 1 | 18 => 4 | 19 => 5 | n => n⟩
theorem Tryd.laysM171 : Go.Proofs.LaysM.n171 Tryd.prog Tryd.laysM171_ren := {
  mixed := by kernel_rfl
  f129 := Tryd.func103.trans (congrArg some (by kernel_rfl))
  f171 := Tryd.func40.trans (congrArg some (by kernel_rfl))
  f243 := Tryd.func63.trans (congrArg some (by kernel_rfl))
  f246 := Tryd.func81.trans (congrArg some (by kernel_rfl))
  f283 := Tryd.func92.trans (congrArg some (by kernel_rfl))
  f284 := Tryd.func93.trans (congrArg some (by kernel_rfl))
  f285 := Tryd.func94.trans (congrArg some (by kernel_rfl))
  f286 := Tryd.func95.trans (congrArg some (by kernel_rfl))
  f317 := Tryd.func102.trans (congrArg some (by kernel_rfl))
  f318 := Tryd.func104.trans (congrArg some (by kernel_rfl))
  f319 := Tryd.func105.trans (congrArg some (by kernel_rfl))
  f320 := Tryd.func106.trans (congrArg some (by kernel_rfl))
  f337 := Tryd.func113.trans (congrArg some (by kernel_rfl))
  f338 := Tryd.func114.trans (congrArg some (by kernel_rfl))
  t0 := Tryd.underlying0
  a0 := Tryd.isAgg0
  z0 := Tryd.sizeOf0
  v0 := Tryd.zeroValue0
  t2 := Tryd.underlying2
  a2 := Tryd.isAgg2
  z2 := Tryd.sizeOf2
  v2 := Tryd.zeroValue2
  t3 := Tryd.underlying3
  a3 := Tryd.isAgg3
  z3 := Tryd.sizeOf3
  v3 := Tryd.zeroValue3
  t4 := Tryd.underlying4
  a4 := Tryd.isAgg4
  z4 := Tryd.sizeOf4
  v4 := Tryd.zeroValue4
  t5 := Tryd.underlying5
  a5 := Tryd.isAgg5
  z5 := Tryd.sizeOf5
  v5 := Tryd.zeroValue5
  t9 := Tryd.underlying9
  a9 := Tryd.isAgg9
  z9 := Tryd.sizeOf9
  v9 := Tryd.zeroValue9
  t20 := Tryd.underlying20
  a20 := Tryd.isAgg20
  z20 := Tryd.sizeOf20
  v20 := Tryd.zeroValue20
  t37 := Tryd.underlying52
  a37 := Tryd.isAgg52
  z37 := Tryd.sizeOf52
  v37 := Tryd.zeroValue52
  t46 := Tryd.underlying137
  a46 := Tryd.isAgg137
  z46 := Tryd.sizeOf137
  v46 := Tryd.zeroValue137
  t51 := Tryd.underlying134
  a51 := Tryd.isAgg134
  z51 := Tryd.sizeOf134
  v51 := Tryd.zeroValue134
  t53 := Tryd.underlying123
  a53 := Tryd.isAgg123
  z53 := Tryd.sizeOf123
  v53 := Tryd.zeroValue123
  t171 := Tryd.underlying122
  a171 := Tryd.isAgg122
  z171 := Tryd.sizeOf122
  v171 := Tryd.zeroValue122
  t173 := Tryd.underlying126
  a173 := Tryd.isAgg126
  z173 := Tryd.sizeOf126
  v173 := Tryd.zeroValue126
  t212 := Tryd.underlying133
  a212 := Tryd.isAgg133
  z212 := Tryd.sizeOf133
  v212 := Tryd.zeroValue133
  t213 := Tryd.underlying135
  a213 := Tryd.isAgg135
  z213 := Tryd.sizeOf135
  t232 := Tryd.underlying146
  a232 := Tryd.isAgg146
  z232 := Tryd.sizeOf146
  v232 := Tryd.zeroValue146
  t233 := Tryd.underlying147
  a233 := Tryd.isAgg147
  z233 := Tryd.sizeOf147
  v233 := Tryd.zeroValue147
  g17 := by kernel_rfl
  g18 := by kernel_rfl
  g19 := by kernel_rfl
  i0 := by kernel_rfl
  i2 := by kernel_rfl
  i3 := by kernel_rfl
  i4 := by kernel_rfl
  i5 := by kernel_rfl
  i9 := by kernel_rfl
  i20 := by kernel_rfl
  i37 := by kernel_rfl
  i46 := by kernel_rfl
  i51 := by kernel_rfl
  i53 := by kernel_rfl
  i171 := by kernel_rfl
  i173 := by kernel_rfl
  i212 := by kernel_rfl
  i232 := by kernel_rfl
  i233 := by kernel_rfl
  m17 := by kernel_rfl
  m18 := by kernel_rfl
  m19 := by kernel_rfl }
open Go.RowKit Go.Sort Go.Lib in
theorem Tryd.strconv_Itoa (n : Int) (h0 : -9223372036854775808 ≤ n) (h1 : n ≤ 9223372036854775807) (w : World) (htab : Lib.TabIs Tryd.prog w "internal/strconv.uint64pow10" .u64 Lib.pow10Tab) :
    Calls Tryd.prog 40 #[.int .i64 n] w fun e w' => e = .returned (.string ⟨(Lib.itoa n).toArray⟩) ∧ ∃ k os, w' = grow (w.drewN k) os := Any.strconv_Itoa Tryd.laysM171 n h0 h1 w htab
def Tryd.lays146_ren : Go.Shelf.Ren := ⟨fun | 146 => 51 | 221 => 72 | 268 => 87 | 138 => 88 | 143 => 89 | 195 => 98 | 197 => 99 | 218 => 100 | 219 => 101 | 260 => 109 | 217 => 96 | 225 => 110 | 224 => 111 | 267 => 112 | 266 => 107 | 314 => 115 | n => n, fun | 9 => 9 | 31 => 46 | 3 => 3 | 4 => 4 | 0 => 0 | 105 => 129 | 21 => 21 | 5 => 5 | 46 => 137 | 119 => 140 | 139 => 143 | 138 => 142 | 146 => 144 | 51 => 134 | n => n, fun | 1 => 0 | 3 => 2 | 4 => 3 | n => n⟩
theorem Tryd.lays146 : Go.Proofs.Lays.n146 Tryd.prog Tryd.lays146_ren := {
  mixed := by kernel_rfl
  f138 := Tryd.func88.trans (congrArg some (by kernel_rfl))
  f143 := Tryd.func89.trans (congrArg some (by kernel_rfl))
  f146 := Tryd.func51.trans (congrArg some (by kernel_rfl))
  f195 := Tryd.func98.trans (congrArg some (by kernel_rfl))
  f197 := Tryd.func99.trans (congrArg some (by kernel_rfl))
  f217 := Tryd.func96.trans (congrArg some (by kernel_rfl))
  f218 := Tryd.func100.trans (congrArg some (by kernel_rfl))
  f219 := Tryd.func101.trans (congrArg some (by kernel_rfl))
  f221 := Tryd.func72.trans (congrArg some (by kernel_rfl))
  f224 := Tryd.func111.trans (congrArg some (by kernel_rfl))
  f225 := Tryd.func110.trans (congrArg some (by kernel_rfl))
  f260 := Tryd.func109.trans (congrArg some (by kernel_rfl))
  f266 := Tryd.func107.trans (congrArg some (by kernel_rfl))
  f267 := Tryd.func112.trans (congrArg some (by kernel_rfl))
  f268 := Tryd.func87.trans (congrArg some (by kernel_rfl))
  f314 := Tryd.func115.trans (congrArg some (by kernel_rfl))
  t0 := Tryd.underlying0
  a0 := Tryd.isAgg0
  z0 := Tryd.sizeOf0
  v0 := Tryd.zeroValue0
  t3 := Tryd.underlying3
  a3 := Tryd.isAgg3
  z3 := Tryd.sizeOf3
  v3 := Tryd.zeroValue3
  t4 := Tryd.underlying4
  a4 := Tryd.isAgg4
  z4 := Tryd.sizeOf4
  v4 := Tryd.zeroValue4
  t5 := Tryd.underlying5
  a5 := Tryd.isAgg5
  z5 := Tryd.sizeOf5
  v5 := Tryd.zeroValue5
  t9 := Tryd.underlying9
  a9 := Tryd.isAgg9
  z9 := Tryd.sizeOf9
  v9 := Tryd.zeroValue9
  t21 := Tryd.underlying21
  a21 := Tryd.isAgg21
  z21 := Tryd.sizeOf21
  v21 := Tryd.zeroValue21
  t31 := Tryd.underlying46
  a31 := Tryd.isAgg46
  z31 := Tryd.sizeOf46
  v31 := Tryd.zeroValue46
  t46 := Tryd.underlying137
  a46 := Tryd.isAgg137
  z46 := Tryd.sizeOf137
  v46 := Tryd.zeroValue137
  t51 := Tryd.underlying134
  a51 := Tryd.isAgg134
  z51 := Tryd.sizeOf134
  v51 := Tryd.zeroValue134
  t105 := Tryd.underlying129
  a105 := Tryd.isAgg129
  z105 := Tryd.sizeOf129
  v105 := Tryd.zeroValue129
  t119 := Tryd.underlying140
  a119 := Tryd.isAgg140
  z119 := Tryd.sizeOf140
  t138 := Tryd.underlying142
  a138 := Tryd.isAgg142
  z138 := Tryd.sizeOf142
  v138 := Tryd.zeroValue142
  t139 := Tryd.underlying143
  a139 := Tryd.isAgg143
  z139 := Tryd.sizeOf143
  v139 := Tryd.zeroValue143
  t146 := Tryd.underlying144
  a146 := Tryd.isAgg144
  z146 := Tryd.sizeOf144
  v146 := Tryd.zeroValue144
  g1 := by kernel_rfl
  g3 := by kernel_rfl
  g4 := by kernel_rfl }
open Go.RowKit Go.Lib in
theorem Tryd.strings_Split (s sep : ByteArray) (m : Int) (w : World) (hs : s.size < 4294967281) (hm : w.cell? ⟨0, 0, none⟩ = some (.int .i64 m)) (h1 : 1 ≤ sep.size) :
    Calls Tryd.prog 51 #[.string s, .string sep] w fun e w' =>
      e = .returned (.slice (some ⟨w.heap.size, 0, none⟩) (Lib.countB s sep + 1) (Lib.countB s sep + 1)) ∧ w' = w.alloc (.cells ((Lib.splitB sep 0 (Lib.countB s sep) s).map Value.string).toArray 9) := Any.strings_Split Tryd.lays146 (by kernel_rfl) s sep m w hs hm h1
def Tryd.lays229_ren : Go.Shelf.Ren := ⟨fun | 229 => 52 | n => n, fun | 9 => 9 | 40 => 95 | 31 => 46 | 152 => 108 | 3 => 3 | 0 => 0 | 4 => 4 | 21 => 21 | 154 => 110 | n => n, fun | n => n⟩
theorem Tryd.lays229 : Go.Proofs.Lays.n229 Tryd.prog Tryd.lays229_ren := {
  mixed := by kernel_rfl
  f229 := Tryd.func52.trans (congrArg some (by kernel_rfl))
  t0 := Tryd.underlying0
  a0 := Tryd.isAgg0
  z0 := Tryd.sizeOf0
  v0 := Tryd.zeroValue0
  t3 := Tryd.underlying3
  a3 := Tryd.isAgg3
  z3 := Tryd.sizeOf3
  v3 := Tryd.zeroValue3
  t4 := Tryd.underlying4
  a4 := Tryd.isAgg4
  z4 := Tryd.sizeOf4
  v4 := Tryd.zeroValue4
  t9 := Tryd.underlying9
  a9 := Tryd.isAgg9
  z9 := Tryd.sizeOf9
  v9 := Tryd.zeroValue9
  t21 := Tryd.underlying21
  a21 := Tryd.isAgg21
  z21 := Tryd.sizeOf21
  v21 := Tryd.zeroValue21
  t31 := Tryd.underlying46
  a31 := Tryd.isAgg46
  z31 := Tryd.sizeOf46
  v31 := Tryd.zeroValue46
  t40 := Tryd.underlying95
  a40 := Tryd.isAgg95
  z40 := Tryd.sizeOf95
  v40 := Tryd.zeroValue95
  t152 := Tryd.underlying108
  a152 := Tryd.isAgg108
  z152 := Tryd.sizeOf108
  v152 := Tryd.zeroValue108
  t154 := Tryd.underlying110
  a154 := Tryd.isAgg110
  z154 := Tryd.sizeOf110
  v154 := Tryd.zeroValue110 }
open Go.RowKit Go.Lib in
theorem Tryd.strings_FieldsFunc_grows (g : Nat) (lb : Array Value) (eg : ∀ args w, (callFunc g args).run Tryd.prog w = .ok (.enter g args) w) (p : Nat → Bool) (s : ByteArray) (w : World) (hs : s.size ≤ 4294967296) (hp : PredGrows Tryd.prog g lb p w) :
    Calls Tryd.prog 52 #[.string s, .func (.func g) #[] lb] w fun e w' => ∃ A, e = .returned (.slice (some ⟨A, 0, none⟩) (Lib.goFieldsP p s).length (Lib.goFieldsP p s).length) ∧ w.heap.size ≤ A ∧
      w'.ownsRow w.heap.size 9 1 (.slice (some ⟨A, 0, none⟩) (Lib.goFieldsP p s).length (Lib.goFieldsP p s).length) (Lib.goFieldsP p s).length ((Lib.goFieldsP p s).map Value.string) ∧ Below w.heap.size w w' := Any.strings_FieldsFunc_grows Tryd.lays229 g lb eg p s w hs hp (by kernel_rfl) (by kernel_rfl)
def Tryd.lays110_ren : Go.Shelf.Ren := ⟨fun | 110 => 65 | 109 => 83 | n => n, fun | 31 => 46 | 9 => 9 | 4 => 4 | 3 => 3 | 0 => 0 | n => n, fun | n => n⟩
theorem Tryd.lays110 : Go.Proofs.Lays.n110 Tryd.prog Tryd.lays110_ren := {
  mixed := by kernel_rfl
  f109 := Tryd.func83.trans (congrArg some (by kernel_rfl))
  f110 := Tryd.func65.trans (congrArg some (by kernel_rfl))
  t0 := Tryd.underlying0
  a0 := Tryd.isAgg0
  z0 := Tryd.sizeOf0
  v0 := Tryd.zeroValue0
  t3 := Tryd.underlying3
  a3 := Tryd.isAgg3
  z3 := Tryd.sizeOf3
  v3 := Tryd.zeroValue3
  t4 := Tryd.underlying4
  a4 := Tryd.isAgg4
  z4 := Tryd.sizeOf4
  v4 := Tryd.zeroValue4
  t9 := Tryd.underlying9
  a9 := Tryd.isAgg9
  z9 := Tryd.sizeOf9
  v9 := Tryd.zeroValue9
  t31 := Tryd.underlying46
  a31 := Tryd.isAgg46
  z31 := Tryd.sizeOf46
  v31 := Tryd.zeroValue46 }
open Go.Lib in
theorem Tryd.slices_Contains_string (b off n c : Nat) (zs : List ByteArray) (x : ByteArray) (w : World) (hz : n ≤ zs.length) (hbig : n ≤ 9223372036854775807) (hc : ∀ j, j < zs.length → w.cell? ⟨b, off + j, none⟩ = some (.string (zs.getD j ByteArray.empty))) :
    Calls Tryd.prog 65 #[.slice (some ⟨b, off, none⟩) n c, .string x] w fun e w' => e = .returned (.bool (Lib.containsS (zs.take n) x)) ∧ w' = w := Any.slices_Contains_string Tryd.lays110 b off n c zs x w hz hbig hc
open Go.Lib in
theorem Tryd.slices_Contains_string_empty (a : Option Addr) (c : Nat) (x : ByteArray) (w : World) :
    Calls Tryd.prog 65 #[.slice a 0 c, .string x] w fun e w' => e = .returned (.bool false) ∧ w' = w := Any.slices_Contains_string_empty Tryd.lays110 a c x w
end Go.Proofs

/- What bytes are; names, words. -/
namespace Go.Proofs.YtflpgbkdjelaaaaDoor
open Go Go.Proofs Go.Ua Go.Extern
set_option linter.unusedVariables false
set_option linter.unusedSimpArgs false

def smallN (n : Int) : Bool := decide (97 ≤ n) && decide (n ≤ 122)
def greatN (n : Int) : Bool := decide (65 ≤ n) && decide (n ≤ 90)
def digitN (n : Int) : Bool := decide (48 ≤ n) && decide (n ≤ 57)
def plainN (n : Int) : Bool := smallN n || digitN n

theorem plain_spec (n : Int) : ESpec Tryd.prog 68 [.d (.s (.int .u8 n))] (fun x => x = .d (.s (.bool (plainN n)))) := by
  obtain ⟨z, hz⟩ : ∃ z, z = plainN n := ⟨_, rfl⟩
  rw [← hz]
  unfold plainN smallN digitN at hz
  refine ESpec.enter Tryd.func68 (by kernel_rfl) rfl (Nat.le_of_ble_eq_true rfl) fun _ cx hnt hfr => ?_
  obtain ⟨F, hF⟩ := real_ex
  refine AK.run hF tabOK hnt ?_
  conv => arg 4; cbv
  have second : ∀ (w : Bool), (F .leI 48 n = true → w = F .leI n 57) → (F .leI 48 n = false → w = false) → (decide (48 ≤ n) && decide (n ≤ 57)) = w := by
    intro w h1 h2
    rw [l_leI hF, l_leI hF] at *
    cases h : decide (48 ≤ n)
    · rw [h2 h]; rfl
    · rw [h1 h]; rfl
  cases h1 : F .leI 97 n
  case' true =>
    conv => arg 4; cbv
    cases h2 : F .leI n 122
    case' true =>
      conv => arg 4; cbv
      rw [show z = true by rw [hz, decide_eq_true (leI1 hF h1), decide_eq_true (leI1 hF h2)]; rfl]
      exact AKp.doneE tabOK hfr (by rfl) (by rfl)
  all_goals
    conv => arg 4; cbv
    cases h3 : F .leI 48 n
    · conv => arg 4; cbv
      first
        | rw [show z = false by rw [hz, decide_eq_false (leI0 hF h1), decide_eq_false (leI0 hF h3)]; rfl]
        | rw [show z = false by rw [hz, decide_eq_false (leI0 hF h2), decide_eq_false (leI0 hF h3), Bool.and_false]; rfl]
      exact AKp.doneE tabOK hfr (by rfl) (by rfl)
    · conv => arg 4; cbv
      first
        | rw [show F .leI n 57 = z by rw [hz, decide_eq_false (leI0 hF h1), decide_eq_true (leI1 hF h3), l_leI hF]; rfl]
        | rw [show F .leI n 57 = z by rw [hz, decide_eq_false (leI0 hF h2), decide_eq_true (leI1 hF h3), l_leI hF, Bool.and_false]; rfl]
      exact AKp.doneE tabOK hfr (by rfl) (by rfl)

theorem ib_le : ∀ (l : List UInt8) (c : UInt8), Lib.indexByte l c ≤ l.length
  | [], c => by simp [Lib.indexByte]
  | b :: l, c => by
    have := ib_le l c
    unfold Lib.indexByte
    split
    · simp; omega
    · split
      · simp; omega
      · simp; omega

theorem IndexByte_spec (s : List UInt8) (c : UInt8) : ESpec Tryd.prog 82 [.d (.s (.str s)), .d (.s (.int .u8 c.toNat))] (fun x => x = .d (.s (.int .i64 (Lib.indexByte s c)))) := by
  have base : s.length ≤ maxLen → ESpec Tryd.prog 82 [.d (.s (.str s)), .d (.s (.int .u8 c.toNat))] (fun x => x = .d (.s (.int .i64 (Lib.indexByte s c)))) := by
    intro hs
    have hok : (Sc.int .i64 (Lib.indexByte s c)).ok := by
      have h1 := Lib.indexByte_ge s c
      have h2 := ib_le s c
      have hm : maxLen = 9223372036854775807 := by decide
      exact ⟨by show (-9223372036854775808 : Int) ≤ _; omega, by show _ ≤ (9223372036854775807 : Int); omega⟩
    refine ESpec.grown (enters_of Tryd.func82 (by kernel_rfl) rfl) hok fun R ι vs w hR hG hl hr => ?_
    obtain ⟨v0, v1, rfl⟩ : ∃ v0 v1, vs = [v0, v1] := by
      match vs, hl with
      | [v0, v1], _ => exact ⟨v0, v1, rfl⟩
    obtain rfl := rep_s (hr 0 _ _ rfl rfl)
    obtain rfl := rep_s (hr 1 _ _ rfl rfl)
    refine (Tryd.strings_IndexByte ⟨s.toArray⟩ c.toNat w).mono ?_
    rintro e w' ⟨rfl, rfl⟩
    refine ⟨?_, RowKit.Below.refl _ _⟩
    simp [Sc.val]
  refine ⟨enters_of Tryd.func82 (by kernel_rfl) rfl, fun X L w ι vs h1 hg h2 h3 => (base ?_).2 X L w ι vs h1 hg h2 h3⟩
  match vs, h2 with
  | [v0, v1], _ => exact rep_ok (h3 0 _ _ rfl rfl)
end Go.Proofs.YtflpgbkdjelaaaaDoor

/- Names and words, as the program tells them. -/
namespace Go.Proofs.YtflpgbkdjelaaaaDoor
open Go Go.Proofs Go.Ua Go.Extern
set_option linter.unusedVariables false
set_option linter.unusedSimpArgs false

theorem ib_neg : ∀ (l : List UInt8) (c : UInt8), decide (Lib.indexByte l c < 0) = !l.contains c
  | [], c => by simp [Lib.indexByte]
  | b :: l, c => by
    have h := ib_neg l c
    have h1 := Lib.indexByte_ge l c
    unfold Lib.indexByte
    by_cases e : b = c
    · subst e
      simp
    · rw [if_neg (by simpa using e)]
      have e2 : (b :: l).contains c = l.contains c := by
        simp [List.contains_cons]
        intro h
        exact absurd h.symm e
      rw [e2, ← h]
      by_cases e3 : Lib.indexByte l c = -1
      · rw [if_pos (by simp [e3]), e3]
      · rw [if_neg (by simpa using e3)]
        have : ¬ Lib.indexByte l c < 0 := by omega
        have : ¬ Lib.indexByte l c + 1 < 0 := by omega
        simp [*]

def marks : List UInt8 := [46, 95, 58, 47, 64, 45]
def wordB (c : UInt8) : Bool := plainN c.toNat || greatN c.toNat || marks.contains c
def wordF (w : List UInt8) : Bool := !(w == []) && decide (w.length ≤ 64) && !(w == [45]) && w.all wordB

theorem all_take_succ {α : Type} {p : α → Bool} {l : List α} {i : Nat} {c : α} (h : l[i]? = some c) (ht : (l.take i).all p = true) (hc : p c = true) : (l.take (i + 1)).all p = true := by
  rw [List.take_add_one, h]
  simp [ht, hc]
theorem all_false {α : Type} {p : α → Bool} {l : List α} {i : Nat} {c : α} (h : l[i]? = some c) (hc : p c = false) : l.all p = false := by
  rw [List.all_eq_false]
  exact ⟨c, List.mem_of_getElem? h, by simp [hc]⟩

theorem Word_spec (w : List UInt8) : ESpec Tryd.prog 64 [.d (.s (.str w))] (fun x => x = .d (.s (.bool (wordF w)))) := by
  obtain ⟨z, hz⟩ : ∃ z, z = wordF w := ⟨_, rfl⟩
  rw [← hz]
  unfold wordF at hz
  refine ESpec.enter Tryd.func64 (by kernel_rfl) rfl (Nat.le_of_ble_eq_true rfl) fun hok cx hnt hfr => ?_
  have hwl : w.length ≤ maxLen := hok.1
  have hm : maxLen = 9223372036854775807 := by decide
  obtain ⟨F, hF⟩ := real_ex
  refine AK.run hF tabOK hnt ?_
  conv => arg 4; cbv
  cases h1 : F .eqS w []
  case' true =>
    conv => arg 4; cbv
    rw [show z = false by rw [hz, eqS1 hF h1]; rfl]
    exact AKp.doneE tabOK hfr (by rfl) (by rfl)
  case' false =>
  conv => arg 4; cbv
  cases h2 : F .ltI 64 (F .lenS w)
  case' true =>
    have h2' := ltI1 hF h2
    rw [l_lenS hF] at h2'
    conv => arg 4; cbv
    rw [show z = false by rw [hz, decide_eq_false (show ¬ w.length ≤ 64 by omega)]; simp]
    exact AKp.doneE tabOK hfr (by rfl) (by rfl)
  case' false =>
  have h2' := ltI0 hF h2
  rw [l_lenS hF] at h2'
  conv => arg 4; cbv
  cases h3 : F .eqS w [45]
  case' true =>
    conv => arg 4; cbv
    rw [show z = false by rw [hz, eqS1 hF h3]; rfl]
    exact AKp.doneE tabOK hfr (by rfl) (by rfl)
  case' false =>
  have hz2 : z = w.all wordB := by
    rw [hz, decide_eq_true (show w.length ≤ 64 by omega)]
    have e1 : (w == []) = false := by simpa using eqS0 hF h1
    have e2 : (w == [45]) = false := by simpa using eqS0 hF h3
    rw [e1, e2]; simp
  conv => arg 4; cbv
  refine AKp.enterLoop 18 ?_
  conv => arg 7; cbv
  refine AKl.inv hF tabOK hnt hfr (fun n vs hs => ∃ (i : Nat) (iv : Int), i + n = w.length ∧ iv = i ∧ (w.take i).all wordB = true ∧ vs = [(18, .d (.s (.int .i64 iv)))] ∧ hs = []) w.length
    ⟨0, _, by omega, rfl, by simp, rfl, rfl⟩ (by repeat (first | exact True.intro | refine ⟨⟨rfl, rfl⟩, ?_⟩)) (by repeat (first | exact True.intro | refine ⟨⟨rfl, rfl, rfl⟩, ?_⟩)) ?_
  rintro J n vs hs hJ ⟨i, iv, hi, hiv, hall, rfl, rfl⟩
  conv => arg 4; cbv
  cases hb : F .ltI iv (F .lenS w)
  case' false =>
    have hlt := ltI0 hF hb
    rw [l_lenS hF] at hlt
    conv => arg 4; cbv
    rw [show z = true by rw [hz2, ← hall, List.take_of_length_le (by omega)]]
    exact AKp.doneE tabOK hfr (by rfl) (by rfl)
  case' true =>
    have hlt := ltI1 hF hb
    rw [l_lenS hF] at hlt
    have hil : i < w.length := by omega
    obtain ⟨c, hc⟩ : ∃ c, w[i]? = some c := ⟨_, List.getElem?_eq_getElem hil⟩
    have sp := plain_spec c.toNat
    have si := IndexByte_spec [46, 95, 58, 47, 64, 45] c
    have hib : decide (Lib.indexByte [46, 95, 58, 47, 64, 45] c < 0) = !marks.contains c := ib_neg _ c
    have hg := l_getS hF hc hiv
    obtain ⟨wb, hwb⟩ : ∃ z, z = wordB c := ⟨_, rfl⟩
    unfold wordB at hwb
    obtain ⟨cv, hcv⟩ : ∃ z : Int, z = c.toNat := ⟨_, rfl⟩
    obtain ⟨ix, hix⟩ : ∃ z : Int, z = Lib.indexByte [46, 95, 58, 47, 64, 45] c := ⟨_, rfl⟩
    obtain ⟨pb, hpb⟩ : ∃ z, z = plainN c.toNat := ⟨_, rfl⟩
    rw [← hpb] at sp hwb
    rw [← hcv] at sp si hg hwb
    rw [← hix] at si hib
    have hnext : wb = true → (w.take (i + 1)).all wordB = true := fun h => all_take_succ hc hall (by rw [← h, hwb, hpb, hcv]; rfl)
    have hend : wb = false → z = false := fun h => by rw [hz2]; exact all_false hc (by rw [← h, hwb, hpb, hcv]; rfl)
    conv => arg 4; cbv
    rw [hg]
    conv => arg 4; cbv
    refine AKp.call hF tabOK hnt sp rfl rfl rfl rfl rfl rfl rfl (by repeat' first | exact .refl _ | constructor) ?_
    rintro _ rfl
    conv => arg 4; cbv
    cases pb
    case' true =>
      rw [l_not1 hF]
      conv => arg 4; cbv
      refine AKp.again _ hfr (by repeat (first | exact True.intro | refine ⟨⟨rfl, rfl⟩, ?_⟩)) (by repeat (first | exact True.intro | refine ⟨⟨rfl, rfl, rfl⟩, ?_⟩)) (hJ (n - 1) _ _ (by omega) ⟨i + 1, _, by omega, inc_i hF hiv (by omega), hnext (by rw [hwb]; rfl), rfl, rfl⟩)
    case' false =>
      rw [l_not0 hF]
      conv => arg 4; cbv
      have last : ∀ g : Bool, greatN cv = false → wb = marks.contains c := fun _ h => by rw [hwb, h]; rfl
      cases h5 : F .ltI cv 65
      case' false =>
        conv => arg 4; cbv
        cases h6 : F .ltI 90 cv
        case' false =>
          conv => arg 4; cbv
          refine AKp.again _ hfr (by repeat (first | exact True.intro | refine ⟨⟨rfl, rfl⟩, ?_⟩)) (by repeat (first | exact True.intro | refine ⟨⟨rfl, rfl, rfl⟩, ?_⟩)) (hJ (n - 1) _ _ (by omega) ⟨i + 1, _, by omega, inc_i hF hiv (by omega), hnext (by
            have g1 := ltI0 hF h5
            have g2 := ltI0 hF h6
            rw [hwb, greatN, decide_eq_true (show 65 ≤ cv by omega), decide_eq_true (show cv ≤ 90 by omega)]; rfl), rfl, rfl⟩)
        case' true =>
          have hgr : greatN cv = false := by
            have g2 := ltI1 hF h6
            rw [greatN, decide_eq_false (show ¬ cv ≤ 90 by omega), Bool.and_false]
      case' true =>
        have hgr : greatN cv = false := by
          have g2 := ltI1 hF h5
          rw [greatN, decide_eq_false (show ¬ 65 ≤ cv by omega)]; rfl
      all_goals
        conv => arg 4; cbv
        refine AKp.call hF tabOK hnt si rfl rfl rfl rfl rfl rfl rfl (by repeat' first | exact .refl _ | constructor) ?_
        rintro _ rfl
        conv => arg 4; cbv
        have hw2 := last true hgr
        cases h7 : F .ltI ix 0
        · have h7' := ltI0 hF h7
          rw [decide_eq_false h7'] at hib
          conv => arg 4; cbv
          have hx : marks.contains c = true := by
            generalize marks.contains c = x at hib ⊢
            cases x
            · exact absurd hib (by decide)
            · rfl
          refine AKp.again _ hfr (by repeat (first | exact True.intro | refine ⟨⟨rfl, rfl⟩, ?_⟩)) (by repeat (first | exact True.intro | refine ⟨⟨rfl, rfl, rfl⟩, ?_⟩)) (hJ (n - 1) _ _ (by omega) ⟨i + 1, _, by omega, inc_i hF hiv (by omega), hnext (by rw [hw2]; exact hx), rfl, rfl⟩)
        · have h7' := ltI1 hF h7
          rw [decide_eq_true h7'] at hib
          conv => arg 4; cbv
          have hx : marks.contains c = false := by
            generalize marks.contains c = x at hib ⊢
            cases x
            · rfl
            · exact absurd hib (by decide)
          rw [hend (by rw [hw2]; exact hx)]
          exact AKp.doneE tabOK hfr (by rfl) (by rfl)
end Go.Proofs.YtflpgbkdjelaaaaDoor

/- Names; numbers. -/
namespace Go.Proofs.YtflpgbkdjelaaaaDoor
open Go Go.Proofs Go.Ua Go.Extern
set_option linter.unusedVariables false
set_option linter.unusedSimpArgs false

def nameB (c : UInt8) : Bool := plainN c.toNat || ((c.toNat : Int) == 45)
def nameF (w : List UInt8) : Bool := match w with
  | [] => false
  | c :: _ => decide (w.length ≤ 32) && smallN c.toNat && w.all nameB

theorem Name_spec (w : List UInt8) : ESpec Tryd.prog 44 [.d (.s (.str w))] (fun x => x = .d (.s (.bool (nameF w)))) := by
  obtain ⟨z, hz⟩ : ∃ z, z = nameF w := ⟨_, rfl⟩
  rw [← hz]
  refine ESpec.enter Tryd.func44 (by kernel_rfl) rfl (Nat.le_of_ble_eq_true rfl) fun hok cx hnt hfr => ?_
  have hwl : w.length ≤ maxLen := hok.1
  have hm : maxLen = 9223372036854775807 := by decide
  obtain ⟨F, hF⟩ := real_ex
  refine AK.run hF tabOK hnt ?_
  conv => arg 4; cbv
  cases h1 : F .eqS w []
  case' true =>
    conv => arg 4; cbv
    rw [show z = false by rw [hz, eqS1 hF h1]; rfl]
    exact AKp.doneE tabOK hfr (by rfl) (by rfl)
  case' false =>
  have hne := eqS0 hF h1
  obtain ⟨c0, w0, hw0⟩ : ∃ c r, w = c :: r := by
    cases w with
    | nil => exact absurd rfl hne
    | cons c r => exact ⟨c, r, rfl⟩
  have hz1 : z = (decide (w.length ≤ 32) && smallN c0.toNat && w.all nameB) := by rw [hz, hw0]; rfl
  have hg0 := l_getS hF (s := w) (i := 0) (c := c0) (iv := 0) (by rw [hw0]; rfl) rfl
  obtain ⟨c0v, hc0v⟩ : ∃ z : Int, z = c0.toNat := ⟨_, rfl⟩
  rw [← hc0v] at hz1 hg0
  unfold smallN at hz1
  conv => arg 4; cbv
  cases h2 : F .ltI 32 (F .lenS w)
  case' true =>
    have h2' := ltI1 hF h2
    rw [l_lenS hF] at h2'
    conv => arg 4; cbv
    rw [show z = false by rw [hz1, decide_eq_false (show ¬ w.length ≤ 32 by omega)]; simp]
    exact AKp.doneE tabOK hfr (by rfl) (by rfl)
  case' false =>
  have h2' := ltI0 hF h2
  rw [l_lenS hF] at h2'
  conv => arg 4; cbv
  rw [hg0]
  conv => arg 4; cbv
  cases h3 : F .ltI c0v 97
  case' true =>
    have h3' := ltI1 hF h3
    conv => arg 4; cbv
    rw [show z = false by rw [hz1, decide_eq_false (show ¬ 97 ≤ c0v by omega)]; simp]
    exact AKp.doneE tabOK hfr (by rfl) (by rfl)
  case' false =>
  have h3' := ltI0 hF h3
  conv => arg 4; cbv
  rw [hg0]
  conv => arg 4; cbv
  cases h4 : F .ltI 122 c0v
  case' true =>
    have h4' := ltI1 hF h4
    conv => arg 4; cbv
    rw [show z = false by rw [hz1, decide_eq_false (show ¬ c0v ≤ 122 by omega)]; simp]
    exact AKp.doneE tabOK hfr (by rfl) (by rfl)
  case' false =>
  have h4' := ltI0 hF h4
  have hz2 : z = w.all nameB := by
    rw [hz1, decide_eq_true (show w.length ≤ 32 by omega), decide_eq_true (show 97 ≤ c0v by omega), decide_eq_true (show c0v ≤ 122 by omega)]
    simp
  conv => arg 4; cbv
  refine AKp.enterLoop 23 ?_
  conv => arg 7; cbv
  refine AKl.inv hF tabOK hnt hfr (fun n vs hs => ∃ (i : Nat) (iv : Int), i + n = w.length ∧ iv = i ∧ (w.take i).all nameB = true ∧ vs = [(23, .d (.s (.int .i64 iv)))] ∧ hs = []) w.length
    ⟨0, _, by omega, rfl, by simp, rfl, rfl⟩ (by repeat (first | exact True.intro | refine ⟨⟨rfl, rfl⟩, ?_⟩)) (by repeat (first | exact True.intro | refine ⟨⟨rfl, rfl, rfl⟩, ?_⟩)) ?_
  rintro J n vs hs hJ ⟨i, iv, hi, hiv, hall, rfl, rfl⟩
  conv => arg 4; cbv
  cases hb : F .ltI iv (F .lenS w)
  case' false =>
    have hlt := ltI0 hF hb
    rw [l_lenS hF] at hlt
    conv => arg 4; cbv
    rw [show z = true by rw [hz2, ← hall, List.take_of_length_le (by omega)]]
    exact AKp.doneE tabOK hfr (by rfl) (by rfl)
  case' true =>
    have hlt := ltI1 hF hb
    rw [l_lenS hF] at hlt
    have hil : i < w.length := by omega
    obtain ⟨c, hc⟩ : ∃ c, w[i]? = some c := ⟨_, List.getElem?_eq_getElem hil⟩
    have sp := plain_spec c.toNat
    have hg := l_getS hF hc hiv
    obtain ⟨wb, hwb⟩ : ∃ z, z = nameB c := ⟨_, rfl⟩
    unfold nameB at hwb
    obtain ⟨cv, hcv⟩ : ∃ z : Int, z = c.toNat := ⟨_, rfl⟩
    obtain ⟨pb, hpb⟩ : ∃ z, z = plainN c.toNat := ⟨_, rfl⟩
    rw [← hpb] at sp hwb
    rw [← hcv] at sp hg hwb
    have hnext : wb = true → (w.take (i + 1)).all nameB = true := fun h => all_take_succ hc hall (by rw [← h, hwb, hpb, hcv]; rfl)
    have hend : wb = false → z = false := fun h => by rw [hz2]; exact all_false hc (by rw [← h, hwb, hpb, hcv]; rfl)
    conv => arg 4; cbv
    rw [hg]
    conv => arg 4; cbv
    refine AKp.call hF tabOK hnt sp rfl rfl rfl rfl rfl rfl rfl (by repeat' first | exact .refl _ | constructor) ?_
    rintro _ rfl
    conv => arg 4; cbv
    cases pb
    case' true =>
      rw [l_not1 hF]
      conv => arg 4; cbv
      refine AKp.again _ hfr (by repeat (first | exact True.intro | refine ⟨⟨rfl, rfl⟩, ?_⟩)) (by repeat (first | exact True.intro | refine ⟨⟨rfl, rfl, rfl⟩, ?_⟩)) (hJ (n - 1) _ _ (by omega) ⟨i + 1, _, by omega, inc_i hF hiv (by omega), hnext (by rw [hwb]; rfl), rfl, rfl⟩)
    case' false =>
      rw [l_not0 hF]
      conv => arg 4; cbv
      rw [hg]
      conv => arg 4; cbv
      cases h5 : F .eqI cv 45
      case' false =>
        have h5' := eqI0 hF h5
        rw [l_not0 hF]
        conv => arg 4; cbv
        rw [hend (by rw [hwb]; simp [h5'])]
        exact AKp.doneE tabOK hfr (by rfl) (by rfl)
      case' true =>
        have h5' := eqI1 hF h5
        rw [l_not1 hF]
        conv => arg 4; cbv
        refine AKp.again _ hfr (by repeat (first | exact True.intro | refine ⟨⟨rfl, rfl⟩, ?_⟩)) (by repeat (first | exact True.intro | refine ⟨⟨rfl, rfl, rfl⟩, ?_⟩)) (hJ (n - 1) _ _ (by omega) ⟨i + 1, _, by omega, inc_i hF hiv (by omega), hnext (by rw [hwb, h5']; rfl), rfl, rfl⟩)
end Go.Proofs.YtflpgbkdjelaaaaDoor

