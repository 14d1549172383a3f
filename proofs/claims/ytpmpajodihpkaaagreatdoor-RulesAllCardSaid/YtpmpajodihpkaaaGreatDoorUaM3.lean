/- The library of this claim and its walks, part 3, joined out of smaller texts. No statement stands in it. -/
import Derived.Test.YtpmpajodihpkaaaGreatDoorUaM2
import Derived.Laws.Strings
import Derived.Laws.Strings2
import Derived.Laws.Slices
import Derived.Lib.Strings
set_option linter.unusedSimpArgs false
set_option linter.unusedVariables false
namespace Go.Ua
open Go
def strOf : List Dat → Option (List UInt8)
 | [] => some []
 | .s (.int .u8 n) :: r => (match strOf r with
   | some l => if n = ((UInt8.ofNat n.toNat).toNat : Int) then some (UInt8.ofNat n.toNat :: l) else none
   | none => none)
 | _ :: _ => none
inductive SK where
 | str | bool | int (k : IntKind) | view (k : Nat)
def skOK : SK → Dat → Bool
 | .str, .s (.str _) => true
 | .bool, .s (.bool _) => true
 | .int k, .s (.int k' _) => decide (k = k')
 | .view k, .view k' _ => Nat.beq k k'
 | _, _ => false
def sksOK : List SK → List Dat → Bool
 | [], [] => true
 | s :: l, d :: r => skOK s d && sksOK l r
 | _, _ => false
structure Ar where
 wrap : IntKind → Int → Int
 add : Int → Int → Int
 sub : Int → Int → Int
 mul : Int → Int → Int
 tdiv : Int → Int → Int
 tmod : Int → Int → Int
 nz : Int → Bool
 eqI : Int → Int → Bool
 ltI : Int → Int → Bool
 leI : Int → Int → Bool
 bits : BinOp → IntKind → Int → Int → Int
 shl : IntKind → Int → Int → Option Int
 shr : IntKind → Int → Int → Option Int
 not : Bool → Bool
 eqB : Bool → Bool → Bool
 orB : Bool → Bool → Bool
 andB : Bool → Bool → Bool
 eqS : List UInt8 → List UInt8 → Bool
 ltS : List UInt8 → List UInt8 → Bool
 cat : List UInt8 → List UInt8 → Option (List UInt8)
 lenS : List UInt8 → Int
 getS : List UInt8 → Int → Option Int
 cutS : List UInt8 → Int → Int → Option (List UInt8)
 lenD : List Dat → Int
 getD : List Dat → Int → Option Dat
 nthD : List Dat → Nat → Option Dat
 cutD : List Dat → Int → Int → Option (List Dat)
 inB : Int → Nat → Option Nat
 inL : List Dat → Int → Option Nat
 cutL : List Dat → Int → Int → Option (Option (Nat × Nat))
 setD : List Dat → Nat → Dat → List Dat
 appD : List Dat → List Dat → List Dat
 subD : List Dat → Nat → Nat → List Dat
 repD : Int → Dat → Option (List Dat)
 bytesD : List UInt8 → List Dat
 strD : List Dat → Option (List UInt8)
 fits : Nat → List Dat → Bool
 natI : Nat → Int
 addN : Nat → Nat → Nat
 subN : Nat → Nat → Nat
 cutN : Nat → Int → Int → Option (Option (Nat × Nat))
 max : Int → Int → Int
 min : Int → Int → Int
 getM : (List UInt8 → Int) → List UInt8 → Int
 setM : (List UInt8 → Int) → List UInt8 → Int → List UInt8 → Int
def getI {α : Type} (l : List α) (n : Int) : Option α := if 0 ≤ n then l[n.toNat]? else none
def cutI {α : Type} (l : List α) (lo hi : Int) : Option (List α) := if 0 ≤ lo ∧ lo ≤ hi ∧ hi ≤ (l.length : Int) then some ((l.take hi.toNat).drop lo.toNat) else none
def Ar.real : Ar where
 wrap := IntKind.wrap
 add a b := a + b
 sub a b := a - b
 mul a b := a * b
 tdiv a b := a.tdiv b
 tmod a b := a.tmod b
 nz n := n != 0
 eqI a b := a == b
 ltI a b := decide (a < b)
 leI a b := decide (a ≤ b)
 bits op k a b := Go.bits op k a b
 shl k a b := if b < 0 then none else some (k.wrap (a * 2 ^ (Min.min b.toNat k.bits)))
 shr k a b := if b < 0 then none else some (a.fdiv (2 ^ (Min.min b.toNat k.bits)))
 not b := !b
 eqB a b := a == b
 orB a b := a || b
 andB a b := a && b
 eqS a b := a == b
 ltS a b := Op.bytesLess a b
 cat a b := if ((a.length + b.length : Nat) : Int) > IntKind.i64.max then none else some (a ++ b)
 lenS l := l.length
 getS l n := (getI l n).map fun b => (b.toNat : Int)
 cutS l lo hi := cutI l lo hi
 lenD l := l.length
 getD l n := getI l n
 nthD l n := l[n]?
 cutD l lo hi := cutI l lo hi
 inB i n := if 0 ≤ i ∧ i < (n : Int) then some i.toNat else none
 inL l i := if 0 ≤ i ∧ i < (l.length : Int) then some i.toNat else none
 cutL l lo hi := if 0 ≤ lo ∧ lo ≤ hi ∧ hi ≤ (l.length : Int) then (if lo = hi then some none else some (some (lo.toNat, hi.toNat - lo.toNat))) else none
 setD l i x := l.set i x
 appD a b := a ++ b
 subD l i n := (l.drop i).take n
 repD n x := if 0 ≤ n ∧ n ≤ 34359738368 then some (List.replicate n.toNat x) else none
 bytesD l := l.map fun c => .s (.int .u8 c.toNat)
 strD l := strOf l
 fits b l := decide (l.length * b ≤ 70368744177664)
 natI n := n
 addN a b := a + b
 subN a b := a - b
 cutN n lo hi := if 0 ≤ lo ∧ lo ≤ hi ∧ hi ≤ (n : Int) then (if lo.toNat = n ∧ n ≠ 0 then some none else some (some (lo.toNat, hi.toNat))) else none
 max a b := if b > a then b else a
 min a b := if b < a then b else a
 getM f s := f s
 setM f s n := fun x => if x = s then n else f x
inductive K where
 | wrap
 | add
 | sub
 | mul
 | tdiv
 | tmod
 | nz
 | eqI
 | ltI
 | leI
 | bits
 | shl
 | shr
 | not
 | eqB
 | orB
 | andB
 | eqS
 | ltS
 | cat
 | lenS
 | getS
 | cutS
 | lenD
 | getD
 | nthD
 | cutD
 | inB
 | inL
 | cutL
 | setD
 | appD
 | subD
 | repD
 | bytesD
 | strD
 | fits
 | natI
 | addN
 | subN
 | cutN
 | max
 | min
 | getM
 | setM
 | toN
 | hasN
 | hasS
 | atS
 | hasC
 | subS
 | hasCat
 | app
 | hasD
 | cellD
 | strA
 | boolA
 | intA
 | viewA
 | hasV
 | subV
 | hasStr
 | ofStr
 | iteB
@[reducible] def K.ty : K → Type
 | .wrap => IntKind → Int → Int
 | .add => Int → Int → Int
 | .sub => Int → Int → Int
 | .mul => Int → Int → Int
 | .tdiv => Int → Int → Int
 | .tmod => Int → Int → Int
 | .nz => Int → Bool
 | .eqI => Int → Int → Bool
 | .ltI => Int → Int → Bool
 | .leI => Int → Int → Bool
 | .bits => BinOp → IntKind → Int → Int → Int
 | .shl => IntKind → Int → Int → Option Int
 | .shr => IntKind → Int → Int → Option Int
 | .not => Bool → Bool
 | .eqB => Bool → Bool → Bool
 | .orB => Bool → Bool → Bool
 | .andB => Bool → Bool → Bool
 | .eqS => List UInt8 → List UInt8 → Bool
 | .ltS => List UInt8 → List UInt8 → Bool
 | .cat => List UInt8 → List UInt8 → Option (List UInt8)
 | .lenS => List UInt8 → Int
 | .getS => List UInt8 → Int → Option Int
 | .cutS => List UInt8 → Int → Int → Option (List UInt8)
 | .lenD => List Dat → Int
 | .getD => List Dat → Int → Option Dat
 | .nthD => List Dat → Nat → Option Dat
 | .cutD => List Dat → Int → Int → Option (List Dat)
 | .inB => Int → Nat → Option Nat
 | .inL => List Dat → Int → Option Nat
 | .cutL => List Dat → Int → Int → Option (Option (Nat × Nat))
 | .setD => List Dat → Nat → Dat → List Dat
 | .appD => List Dat → List Dat → List Dat
 | .subD => List Dat → Nat → Nat → List Dat
 | .repD => Int → Dat → Option (List Dat)
 | .bytesD => List UInt8 → List Dat
 | .strD => List Dat → Option (List UInt8)
 | .fits => Nat → List Dat → Bool
 | .natI => Nat → Int
 | .addN => Nat → Nat → Nat
 | .subN => Nat → Nat → Nat
 | .cutN => Nat → Int → Int → Option (Option (Nat × Nat))
 | .max => Int → Int → Int
 | .min => Int → Int → Int
 | .getM => (List UInt8 → Int) → List UInt8 → Int
 | .setM => (List UInt8 → Int) → List UInt8 → Int → List UInt8 → Int
 | .toN => Int → Nat
 | .hasN => List Dat → Int → Bool
 | .hasS => List UInt8 → Int → Bool
 | .atS => List UInt8 → Int → Int
 | .hasC => List UInt8 → Int → Int → Bool
 | .subS => List UInt8 → Int → Int → List UInt8
 | .hasCat => List UInt8 → List UInt8 → Bool
 | .app => List UInt8 → List UInt8 → List UInt8
 | .hasD => List Dat → Int → List SK → Bool
 | .cellD => List Dat → Int → Nat → Dat
 | .strA => List Dat → Int → Nat → List UInt8
 | .boolA => List Dat → Int → Nat → Bool
 | .intA => List Dat → Int → Nat → Int
 | .viewA => List Dat → Int → Nat → List Dat
 | .hasV => List Dat → Int → Int → Bool
 | .subV => List Dat → Int → Int → List Dat
 | .hasStr => List Dat → Bool
 | .ofStr => List Dat → List UInt8
 | .iteB => Bool → Bool → Bool → Bool
abbrev Fam := (k : K) → k.ty
def Ar.of (F : Fam) : Ar where
 wrap := F .wrap
 add := F .add
 sub := F .sub
 mul := F .mul
 tdiv := F .tdiv
 tmod := F .tmod
 nz := F .nz
 eqI := F .eqI
 ltI := F .ltI
 leI := F .leI
 bits := F .bits
 shl := F .shl
 shr := F .shr
 not := F .not
 eqB := F .eqB
 orB := F .orB
 andB := F .andB
 eqS := F .eqS
 ltS := F .ltS
 cat := F .cat
 lenS := F .lenS
 getS := F .getS
 cutS := F .cutS
 lenD := F .lenD
 getD := F .getD
 nthD := F .nthD
 cutD := F .cutD
 inB := F .inB
 inL := F .inL
 cutL := F .cutL
 setD := F .setD
 appD := F .appD
 subD := F .subD
 repD := F .repD
 bytesD := F .bytesD
 strD := F .strD
 fits := F .fits
 natI := F .natI
 addN := F .addN
 subN := F .subN
 cutN := F .cutN
 max := F .max
 min := F .min
 getM := F .getM
 setM := F .setM
def Fam.real : Fam := fun k => match k with
 | .wrap => Ar.real.wrap
 | .add => Ar.real.add
 | .sub => Ar.real.sub
 | .mul => Ar.real.mul
 | .tdiv => Ar.real.tdiv
 | .tmod => Ar.real.tmod
 | .nz => Ar.real.nz
 | .eqI => Ar.real.eqI
 | .ltI => Ar.real.ltI
 | .leI => Ar.real.leI
 | .bits => Ar.real.bits
 | .shl => Ar.real.shl
 | .shr => Ar.real.shr
 | .not => Ar.real.not
 | .eqB => Ar.real.eqB
 | .orB => Ar.real.orB
 | .andB => Ar.real.andB
 | .eqS => Ar.real.eqS
 | .ltS => Ar.real.ltS
 | .cat => Ar.real.cat
 | .lenS => Ar.real.lenS
 | .getS => Ar.real.getS
 | .cutS => Ar.real.cutS
 | .lenD => Ar.real.lenD
 | .getD => Ar.real.getD
 | .nthD => Ar.real.nthD
 | .cutD => Ar.real.cutD
 | .inB => Ar.real.inB
 | .inL => Ar.real.inL
 | .cutL => Ar.real.cutL
 | .setD => Ar.real.setD
 | .appD => Ar.real.appD
 | .subD => Ar.real.subD
 | .repD => Ar.real.repD
 | .bytesD => Ar.real.bytesD
 | .strD => Ar.real.strD
 | .fits => Ar.real.fits
 | .natI => Ar.real.natI
 | .addN => Ar.real.addN
 | .subN => Ar.real.subN
 | .cutN => Ar.real.cutN
 | .max => Ar.real.max
 | .min => Ar.real.min
 | .getM => Ar.real.getM
 | .setM => Ar.real.setM
 | .toN => fun n => n.toNat
 | .hasN => fun l n => decide (0 ≤ n) && decide (n < (l.length : Int))
 | .hasS => fun l n => decide (0 ≤ n) && decide (n < (l.length : Int))
 | .atS => fun l n => (l.getD n.toNat 0).toNat
 | .hasC => fun l i j => decide (0 ≤ i) && (decide (i ≤ j) && decide (j ≤ (l.length : Int)))
 | .subS => fun l i j => (l.take j.toNat).drop i.toNat
 | .hasCat => fun a b => decide (a.length + b.length ≤ 9223372036854775807)
 | .app => fun a b => a ++ b
 | .hasD => fun l n sk => match getI l n with | some d => sksOK sk d.cells | none => false
 | .cellD => fun l n j => ((l.getD n.toNat (.agg [])).cells).getD j (.agg [])
 | .strA => fun l n j => match ((l.getD n.toNat (.agg [])).cells).getD j (.agg []) with | .s (.str s) => s | _ => []
 | .boolA => fun l n j => match ((l.getD n.toNat (.agg [])).cells).getD j (.agg []) with | .s (.bool s) => s | _ => false
 | .intA => fun l n j => match ((l.getD n.toNat (.agg [])).cells).getD j (.agg []) with | .s (.int _ s) => s | _ => 0
 | .viewA => fun l n j => match ((l.getD n.toNat (.agg [])).cells).getD j (.agg []) with | .view _ s => s | _ => []
 | .hasV => fun l i j => decide (0 ≤ i) && (decide (i ≤ j) && decide (j ≤ (l.length : Int)))
 | .subV => fun l i j => (l.take j.toNat).drop i.toNat
 | .hasStr => fun l => (strOf l).isSome
 | .ofStr => fun l => (strOf l).getD []
 | .iteB => fun b x y => if b then x else y
theorem real_ex : ∃ F : Fam, F = Fam.real := ⟨_, rfl⟩
section
variable {X L : Nat → Prop} {w0 : W0} {w : World} {nt : Nat} {ι : Io} {S : St} {a : Act} {P : Program} {τ : Tab}
def nzOp (A : Ar) (yo : Operand) (n : Int) : Bool := match yo with
 | .const _ => !(n == 0)
 | _ => A.nz n
def binSc (A : Ar) (op : BinOp) (yo : Operand) (x y : Sc) : Option Sc :=
 match x, y with
 | .int k a, .int k' b => (match op with
   | .shl => (match A.shl k a b with
     | some n => some (.int k n)
     | none => none)
   | .shr => (match A.shr k a b with
     | some n => some (.int k n)
     | none => none)
   | op => if k = k' then (match op with
     | .add => some (.int k (A.wrap k (A.add a b)))
     | .sub => some (.int k (A.wrap k (A.sub a b)))
     | .mul => some (.int k (A.wrap k (A.mul a b)))
     | .quo => (match nzOp A yo b with
       | true => some (.int k (A.wrap k (A.tdiv a b)))
       | false => none)
     | .rem => (match nzOp A yo b with
       | true => some (.int k (A.tmod a b))
       | false => none)
     | .and => some (.int k (A.bits .and k a b))
     | .or => some (.int k (A.bits .or k a b))
     | .xor => some (.int k (A.bits .xor k a b))
     | .andNot => some (.int k (A.bits .andNot k a b))
     | .eql => some (.bool (A.eqI a b))
     | .neq => some (.bool (A.not (A.eqI a b)))
     | .lss => some (.bool (A.ltI a b))
     | .leq => some (.bool (A.leI a b))
     | .gtr => some (.bool (A.ltI b a))
     | .geq => some (.bool (A.leI b a))
     | _ => none) else none)
 | .str a, .str b => (match op with
   | .add => (match A.cat a b with
     | some l => some (.str l)
     | none => none)
   | .eql => some (.bool (A.eqS a b))
   | .neq => some (.bool (A.not (A.eqS a b)))
   | .lss => some (.bool (A.ltS a b))
   | .leq => some (.bool (A.orB (A.ltS a b) (A.eqS a b)))
   | .gtr => some (.bool (A.not (A.orB (A.ltS a b) (A.eqS a b))))
   | .geq => some (.bool (A.not (A.ltS a b)))
   | _ => none)
 | _, _ => none
theorem str_size (l : List UInt8) : (ByteArray.mk l.toArray).size = l.length := by simp [ByteArray.size]
theorem str_append (a b : List UInt8) : ByteArray.mk a.toArray ++ ByteArray.mk b.toArray = ByteArray.mk (a ++ b).toArray := by
 apply ByteArray.ext
 simp [ByteArray.data_append]
theorem binSc_run {op : BinOp} {t : TypeId} {yo : Operand} {x y z : Sc} (hc : ∀ v, yo = .const v → y.val = v) (h : binSc Ar.real op yo x y = some z) :
   (Go.binOp op t x.val y.val).run P w = .ok z.val w := by
 cases x <;> cases y <;> simp only [binSc] at h <;> try (cases h)
 case int.int k a k' b =>
   split at h
   · split at h
     · rename_i n hn
       obtain rfl := Option.some.inj h
       simp only [Ar.real] at hn
       split at hn
       · cases hn
       · rename_i hb
         obtain rfl := Option.some.inj hn
         simp [Go.binOp, Sc.val, Op.shift, hb]
     · cases h
   · split at h
     · rename_i n hn
       obtain rfl := Option.some.inj h
       simp only [Ar.real] at hn
       split at hn
       · cases hn
       · rename_i hb
         obtain rfl := Option.some.inj hn
         simp [Go.binOp, Sc.val, Op.shift, hb]
     · cases h
   · split at h
     · rename_i hk
       subst hk
       have hz : nzOp Ar.real yo b = true → b ≠ 0 := by
         intro hz
         unfold nzOp at hz
         split at hz
         · simpa using hz
         · simpa [Ar.real] using hz
       cases op <;> simp only at h <;> try (cases h; done)
       case quo =>
         split at h
         · rename_i hz'
           obtain rfl := Option.some.inj h
           simp [Go.binOp, Sc.val, Op.intDiv, hz hz', Ar.real]
         · cases h
       case rem =>
         split at h
         · rename_i hz'
           obtain rfl := Option.some.inj h
           simp [Go.binOp, Sc.val, Op.intDiv, hz hz', Ar.real]
         · cases h
       all_goals first
         | contradiction
         | (obtain rfl := Option.some.inj h
            simp [Go.binOp, Sc.val, Op.intArith, Op.intCmp, Op.intBits, Ar.real, Go.bits, bne]; done)
         | (obtain rfl := Option.some.inj h
            simp [Go.binOp, Sc.val, Op.intArith, Op.intCmp, Op.intBits, Ar.real, Go.bits, bne] <;> rfl)
     · cases h
 case str.str a b =>
   cases op <;> simp only at h <;> try (cases h; done)
   case add =>
     split at h
     · rename_i l hl
       obtain rfl := Option.some.inj h
       simp only [Ar.real] at hl
       split at hl
       · cases hl
       · rename_i hle
         obtain rfl := Option.some.inj hl
         simp only [Go.binOp, Sc.val, Op.stringOp, str_size, str_append]
         rw [if_neg hle]
         rfl
     · cases h
   all_goals first
     | contradiction
     | (obtain rfl := Option.some.inj h
        simp [Go.binOp, Sc.val, Op.stringOp, Ar.real]; done)
theorem tmod_within (k : IntKind) {a b : Int} (h : k.min ≤ a ∧ a ≤ k.max) : k.min ≤ a.tmod b ∧ a.tmod b ≤ k.max := by
 have hk : k.min ≤ 0 ∧ 0 ≤ k.max := by cases k <;> decide
 rcases Int.le_total 0 a with h0 | h0
 · have h1 := Int.tmod_nonneg b h0
   have h2 : a.tmod b ≤ a := by
     have := Int.natAbs_tmod a b
     have h3 : a.natAbs % b.natAbs ≤ a.natAbs := Nat.mod_le _ _
     omega
   omega
 · have h1 : a.tmod b ≤ 0 := by
     have := Int.tmod_nonneg b (a := -a) (by omega)
     rw [Int.neg_tmod] at this
     omega
   have h2 : a ≤ a.tmod b := by
     have := Int.natAbs_tmod a b
     have h3 : a.natAbs % b.natAbs ≤ a.natAbs := Nat.mod_le _ _
     omega
   omega
theorem fdiv_within (k : IntKind) {a : Int} (n : Nat) (h : k.min ≤ a ∧ a ≤ k.max) : k.min ≤ a.fdiv (2 ^ n) ∧ a.fdiv (2 ^ n) ≤ k.max := by
 have hk : k.min ≤ 0 ∧ 0 ≤ k.max := by cases k <;> decide
 have hp : (1 : Int) ≤ 2 ^ n := by
   have := Nat.one_le_two_pow (n := n)
   have h2 : ((2 ^ n : Nat) : Int) = 2 ^ n := by simp
   omega
 rw [Int.fdiv_eq_ediv_of_nonneg _ (by omega)]
 rcases Int.le_total 0 a with h0 | h0
 · have h1 : 0 ≤ a / 2 ^ n := Int.ediv_nonneg h0 (by omega)
   have h2 : a / 2 ^ n ≤ a := Int.ediv_le_self _ h0
   omega
 · have h1 : a ≤ a / 2 ^ n := by
     rw [Int.le_ediv_iff_mul_le (by omega)]
     have h3 : (-a) * 1 ≤ (-a) * 2 ^ n := Int.mul_le_mul_of_nonneg_left hp (by omega)
     have h4 : a * 2 ^ n = -((-a) * 2 ^ n) := by rw [Int.neg_mul, Int.neg_neg]
     omega
   have h2 : a / 2 ^ n ≤ 0 := by
     have : a / 2 ^ n ≤ 0 / 2 ^ n := Int.ediv_le_ediv (by omega) h0
     simpa using this
   omega
theorem binSc_ok {op : BinOp} {yo : Operand} {x y z : Sc} (hx : x.ok) (hy : y.ok) (h : binSc Ar.real op yo x y = some z) : z.ok := by
 cases x <;> cases y <;> simp only [binSc] at h <;> try (cases h)
 case int.int k a k' b =>
   split at h
   · split at h
     · rename_i n hn
       obtain rfl := Option.some.inj h
       simp only [Ar.real] at hn
       split at hn
       · cases hn
       · obtain rfl := Option.some.inj hn
         exact ok_wrap _ _
     · cases h
   · split at h
     · rename_i n hn
       obtain rfl := Option.some.inj h
       simp only [Ar.real] at hn
       split at hn
       · cases hn
       · obtain rfl := Option.some.inj hn
         exact fdiv_within _ _ hx
     · cases h
   · split at h
     · rename_i hk
       subst hk
       cases op <;> simp only at h <;> try (cases h; done)
       all_goals first
         | contradiction
         | (obtain rfl := Option.some.inj h; trivial)
         | (obtain rfl := Option.some.inj h; exact ok_wrap _ _)
         | (obtain rfl := Option.some.inj h; exact bits_within _ _ _ _)
         | (split at h
            · obtain rfl := Option.some.inj h; first | exact ok_wrap _ _ | exact tmod_within _ hx
            · cases h)
     · cases h
 case str.str a b =>
   cases op <;> simp only at h <;> try (cases h; done)
   all_goals first
     | contradiction
     | (obtain rfl := Option.some.inj h; trivial)
     | (split at h
        · rename_i l hl
          obtain rfl := Option.some.inj h
          simp only [Ar.real] at hl
          split at hl
          · cases hl
          · rename_i hle
            obtain rfl := Option.some.inj hl
            have hm : IntKind.i64.max = 9223372036854775807 := by decide
            rw [hm] at hle
            show (a ++ b).length ≤ maxLen
            simp only [List.length_append, maxLen]
            omega
        · cases h)
end
end Go.Ua
namespace Go.Ua
open Go
section
variable {X L : Nat → Prop} {w0 : W0} {w : World} {nt : Nat} {ι : Io} {S : St} {a : Act} {P : Program} {τ : Tab}
def kindOf (τ : Tab) (t : TypeId) : TK := match look t τ with
 | some y => y.k
 | none => .other
def eqFlat (A : Ar) (τ : Tab) : List (Nat × TypeId) → List Dat → List Dat → Option Bool
 | [], _, _ => some true
 | (o, t) :: r, xs, ys => match kindOf τ t, xs[o]?, ys[o]? with
   | .int _, some (.s (.int k a)), some (.s (.int k' b)) => if k = k' then (match eqFlat A τ r xs ys with
     | some e => some (A.andB (A.eqI a b) e)
     | none => none) else none
   | .string, some (.s (.str a)), some (.s (.str b)) => (match eqFlat A τ r xs ys with
     | some e => some (A.andB (A.eqS a b) e)
     | none => none)
   | .bool, some (.s (.bool a)), some (.s (.bool b)) => (match eqFlat A τ r xs ys with
     | some e => some (A.andB (A.eqB a b) e)
     | none => none)
   | _, _, _ => none
theorem kindOf_run (hτ : TabOK P τ) {t : TypeId} {k : TK} (h : kindOf τ t = k) (hk : ∀ d, ¬ TK.ok d .other → True) (ho : k ≠ .other) :
   ∃ d i y, look t τ = some y ∧ y.k = k ∧ P.underlying t = some d ∧ P.info? t = some i ∧ i.size = y.size ∧ k.ok d := by
 unfold kindOf at h
 split at h
 · rename_i y hy
   obtain ⟨d, i, hu, hi, hs, _, _, _, hk, _⟩ := hτ.get hy
   exact ⟨d, i, y, hy, h, hu, hi, hs, h ▸ hk⟩
 · exact absurd h.symm ho
theorem part_scalar {t : TypeId} {d : TypeDesc} {k : TK} (hu : P.underlying t = some d) (hk : k.ok d) (hag : k.isAgg = false) {cs : Array Value} {o : Nat} {v : Value} (hv : cs[o]? = some v) :
   (part t cs o).run P w = .ok v w := by
 simp [part, Sem.run_bind, TK.isAgg_run hu hk, hag, hv]
theorem eqFlat_run (hτ : TabOK P τ) {fs : List Field} {xs ys : List Dat} {vs us : List Value} {R : Rd}
   (hn : (fs.all fun f => f.name != "_") = true)
   (hx : ∀ (i : Nat) (c : Dat) (v : Value), xs[i]? = some c → vs[i]? = some v → RepD R c v) (hlx : xs.length = vs.length)
   (hy : ∀ (i : Nat) (c : Dat) (v : Value), ys[i]? = some c → us[i]? = some v → RepD R c v) (hly : ys.length = us.length) {e : Bool}
   (h : eqFlat Ar.real τ (fs.map fun f => (f.offset, f.type)) xs ys = some e) (n : Nat) :
   (Op.eqFields (n + 1) vs.toArray us.toArray fs).run P w = .ok e w := by
 induction fs generalizing e with
 | nil => simp [eqFlat] at h; subst h; simp [Op.eqFields]
 | cons f r ih =>
   simp only [List.all_cons, Bool.and_eq_true] at hn
   have hfn : f.name ≠ "_" := by simpa using hn.1
   simp only [List.map_cons, eqFlat] at h
   have key : ∀ (x y : Sc) (q : Bool), xs[f.offset]? = some (.s x) → ys[f.offset]? = some (.s y) →
       (∀ u' v', u' = x.val → v' = y.val → (Op.equalIn (n + 1) f.type u' v').run P w = .ok q w) → kindOf τ f.type ≠ .other → (kindOf τ f.type).isAgg = false →
       ∀ e', eqFlat Ar.real τ (r.map fun f => (f.offset, f.type)) xs ys = some e' →
       (Op.eqFields (n + 1) vs.toArray us.toArray (f :: r)).run P w = .ok (q && e') w := by
     intro x y q hxo hyo hq ho hag e' he'
     obtain ⟨d, i, yy, _, _, hu, _, _, hk⟩ := kindOf_run hτ rfl (fun _ _ => trivial) ho
     have hvo : vs[f.offset]? = some x.val := by
       have hlt : f.offset < vs.length := hlx ▸ (List.getElem?_eq_some_iff.1 hxo).1
       have := hx _ _ _ hxo (List.getElem?_eq_getElem hlt)
       rw [List.getElem?_eq_getElem hlt, this.sc]
     have huo : us[f.offset]? = some y.val := by
       have hlt : f.offset < us.length := hly ▸ (List.getElem?_eq_some_iff.1 hyo).1
       have := hy _ _ _ hyo (List.getElem?_eq_getElem hlt)
       rw [List.getElem?_eq_getElem hlt, this.sc]
     simp only [Op.eqFields, if_pos hfn, Sem.run_bind, part_scalar (P := P) (w := w) hu hk hag (cs := vs.toArray) (by simpa using hvo),
       part_scalar (P := P) (w := w) hu hk hag (cs := us.toArray) (by simpa using huo), Result.andThen_ok, hq _ _ rfl rfl]
     cases q
     · simp
     · simp [ih hn.2 he']
   split at h
   · rename_i k0 k1 a k2 b hk hxo hyo
     by_cases hkk : k1 = k2
     case neg => rw [if_neg hkk] at h; cases h
     rw [if_pos hkk] at h
     subst hkk
     split at h
     · rename_i e' he'
       obtain rfl := Option.some.inj h
       refine key _ _ (a == b) hxo hyo (fun u' v' h1 h2 => ?_) (by rw [hk]; simp) (by rw [hk]; rfl) e' he'
       obtain ⟨d, i, yy, _, _, hu, _, _, hk'⟩ := kindOf_run hτ hk (fun _ _ => trivial) (by simp)
       subst h1; subst h2
       simp only [TK.ok] at hk'
       subst hk'
       exact run_equalIn_int w n f.type _ _ _ _ hu
     · cases h
   · rename_i a b hk hxo hyo
     split at h
     · rename_i e' he'
       obtain rfl := Option.some.inj h
       refine key _ _ (a == b) hxo hyo (fun u' v' h1 h2 => ?_) (by rw [hk]; simp) (by rw [hk]; rfl) e' he'
       obtain ⟨d, i, yy, _, _, hu, _, _, hk'⟩ := kindOf_run hτ hk (fun _ _ => trivial) (by simp)
       subst h1; subst h2
       simp only [TK.ok] at hk'
       subst hk'
       simp only [Sc.val]
       rw [run_equalIn_string w n f.type _ _ hu]
       simp
     · cases h
   · rename_i a b hk hxo hyo
     split at h
     · rename_i e' he'
       obtain rfl := Option.some.inj h
       refine key _ _ (a == b) hxo hyo (fun u' v' h1 h2 => ?_) (by rw [hk]; simp) (by rw [hk]; rfl) e' he'
       obtain ⟨d, i, yy, _, _, hu, _, _, hk'⟩ := kindOf_run hτ hk (fun _ _ => trivial) (by simp)
       subst h1; subst h2
       simp only [TK.ok] at hk'
       subst hk'
       exact run_equalIn_bool' w n f.type _ _ hu
     · cases h
   · cases h
def isConst : Operand → Bool
 | .const _ => true
 | _ => false
def eqAV (A : Ar) (τ : Tab) (t : TypeId) (xo yo : Operand) (x y : AV) : Option Bool :=
 match x, y with
 | .d (.s (.bool a)), .d (.s (.bool b)) => (match kindOf τ t with
   | .bool => some (A.eqB a b)
   | _ => none)
 | .d (.s .if0), .d (.s .if0) => (match kindOf τ t with
   | .iface => if isConst xo || isConst yo then some true else none
   | _ => none)
 | .d (.s .if0), .d (.iface _ _) => (match kindOf τ t with
   | .iface => some false
   | _ => none)
 | .d (.iface _ _), .d (.s .if0) => (match kindOf τ t with
   | .iface => some false
   | _ => none)
 | .d (.iface t1 _), .d (.iface t2 _) => (match kindOf τ t, Nat.beq t1 t2 with
   | .iface, false => some false
   | _, _ => none)
 | .d (.s .if0), .iface _ _ => (match kindOf τ t with
   | .iface => some false
   | _ => none)
 | .iface _ _, .d (.s .if0) => (match kindOf τ t with
   | .iface => some false
   | _ => none)
 | .d (.agg xs), .d (.agg ys) => (match look t τ with
   | some y => (match y.k, y.eq with
     | .struct fs, true => eqFlat A τ fs xs ys
     | _, _ => none)
   | none => none)
 | _, _ => none
theorem eqGuard_plain {op : BinOp} {t : TypeId} {xo yo : Operand} {v u : Value} (h : (∀ c, v ≠ .agg c) ∧ v ≠ .nilIface ∨ (∀ c, u ≠ .agg c) ∧ u ≠ .nilIface) :
   (eqGuard op t xo yo v u).run P w = .ok () w := by
 unfold eqGuard
 cases op <;> cases v <;> cases u <;> first
   | rfl
   | (simp at h; done)
theorem equalIn_nil2 {t : TypeId} {ms : Array (String × TypeId)} (hu : P.underlying t = some (.interface ms)) (n : Nat) : (Op.equalIn (n + 1) t .nilIface .nilIface).run P w = .ok true w := by
 simp [Op.equalIn, run_underlying hu]
theorem equalIn_nil_l {t tx : TypeId} {v : Value} {ms : Array (String × TypeId)} (hu : P.underlying t = some (.interface ms)) (n : Nat) : (Op.equalIn (n + 1) t .nilIface (.iface tx v)).run P w = .ok false w := by
 simp [Op.equalIn, run_underlying hu]
theorem equalIn_nil_r {t tx : TypeId} {v : Value} {ms : Array (String × TypeId)} (hu : P.underlying t = some (.interface ms)) (n : Nat) : (Op.equalIn (n + 1) t (.iface tx v) .nilIface).run P w = .ok false w := by
 simp [Op.equalIn, run_underlying hu]
theorem equalIn_ne {t tx ty : TypeId} {v u : Value} {ms : Array (String × TypeId)} (hu : P.underlying t = some (.interface ms)) (hne : tx ≠ ty) (n : Nat) : (Op.equalIn (n + 1) t (.iface tx v) (.iface ty u)).run P w = .ok false w := by
 simp [Op.equalIn, run_underlying hu, hne]
theorem eqAV_run (hτ : TabOK P τ) {R : Rd} {t : TypeId} {xo yo : Operand} {x y : AV} {v u : Value} (hx : RepV R ι x v) (hy : RepV R ι y u)
   (hxc : isConst xo = true → ∃ c, xo = .const c) {e : Bool} (h : eqAV Ar.real τ t xo yo x y = some e) :
   (do eqGuard .eql t xo yo v u; Go.binOp .eql t v u).run P w = .ok (.bool e) w ∧
   (do eqGuard .neq t xo yo v u; Go.binOp .neq t v u).run P w = .ok (.bool (!e)) w := by
 have two : (∀ op, op = .eql ∨ op = .neq → (eqGuard op t xo yo v u).run P w = .ok () w) → (Op.equalIn 10000 t v u).run P w = .ok e w →
     (Go.binOp .eql t v u = do pure (.bool (← Op.equal t v u))) → (Go.binOp .neq t v u = do pure (.bool (!(← Op.equal t v u)))) →
     (do eqGuard .eql t xo yo v u; Go.binOp .eql t v u).run P w = .ok (.bool e) w ∧
     (do eqGuard .neq t xo yo v u; Go.binOp .neq t v u).run P w = .ok (.bool (!e)) w := by
   intro hg he h1 h2
   rw [h1, h2]
   constructor
   · simp [Sem.run_bind, hg .eql (.inl rfl), Op.equal, Op.maxDepth, he]
   · simp [Sem.run_bind, hg .neq (.inr rfl), Op.equal, Op.maxDepth, he]
 unfold eqAV at h
 split at h
 · rename_i a b
   obtain rfl := rep_s hx
   obtain rfl := rep_s hy
   split at h
   · rename_i hk
     obtain rfl := Option.some.inj h
     obtain ⟨d, i, yy, _, _, hu, _, _, hk'⟩ := kindOf_run hτ hk (fun _ _ => trivial) (by simp)
     simp only [TK.ok] at hk'
     subst hk'
     exact two (fun op _ => eqGuard_plain (.inl ⟨by simp [Sc.val], by simp [Sc.val]⟩)) (run_equalIn_bool' w 9999 t a b hu) rfl rfl
   · cases h
 · obtain rfl := rep_s hx
   obtain rfl := rep_s hy
   split at h
   · rename_i hk
     split at h
     · rename_i hc
       obtain rfl := Option.some.inj h
       obtain ⟨d, i, yy, _, _, hu, _, _, hk'⟩ := kindOf_run hτ hk (fun _ _ => trivial) (by simp)
       obtain ⟨ms, rfl⟩ := hk'
       refine two (fun op hop => ?_) ?_ rfl rfl
       · have hcc : (match xo with | .const _ => true | _ => false) = true ∨ (match yo with | .const _ => true | _ => false) = true := by
           simp only [isConst, Bool.or_eq_true] at hc
           exact hc
         unfold eqGuard
         rcases hop with rfl | rfl
         all_goals
           simp only [Sc.val]
           cases xo <;> cases yo <;> simp_all
       · exact equalIn_nil2 hu 9999
     · cases h
   · cases h
 · obtain rfl := rep_s hx
   cases rep_d hy with
   | iface ty z v hz =>
   split at h
   · rename_i hk
     obtain rfl := Option.some.inj h
     obtain ⟨d, i, yy, _, _, hu, _, _, hk'⟩ := kindOf_run hτ hk (fun _ _ => trivial) (by simp)
     obtain ⟨ms, rfl⟩ := hk'
     refine two (fun op hop => eqGuard_plain (.inr ⟨by simp, by simp⟩)) ?_ rfl rfl
     exact equalIn_nil_l hu 9999
   · cases h
 · obtain rfl := rep_s hy
   cases rep_d hx with
   | iface ty z v hz =>
   split at h
   · rename_i hk
     obtain rfl := Option.some.inj h
     obtain ⟨d, i, yy, _, _, hu, _, _, hk'⟩ := kindOf_run hτ hk (fun _ _ => trivial) (by simp)
     obtain ⟨ms, rfl⟩ := hk'
     refine two (fun op hop => eqGuard_plain (.inl ⟨by simp, by simp⟩)) ?_ rfl rfl
     exact equalIn_nil_r hu 9999
   · cases h
 · cases rep_d hx with
   | iface t1 z1 v1 hz1 =>
   cases rep_d hy with
   | iface t2 z2 v2 hz2 =>
   split at h
   · rename_i hk hne
     obtain rfl := Option.some.inj h
     obtain ⟨d, i, yy, _, _, hu, _, _, hk'⟩ := kindOf_run hτ hk (fun _ _ => trivial) (by simp)
     obtain ⟨ms, rfl⟩ := hk'
     have hne' := Nat.ne_of_beq_eq_false hne
     refine two (fun op hop => eqGuard_plain (.inl ⟨by simp, by simp⟩)) ?_ rfl rfl
     exact equalIn_ne hu hne' 9999
   · cases h
 · obtain rfl := rep_s hx
   cases hy with
   | iface ty z v hz =>
   split at h
   · rename_i hk
     obtain rfl := Option.some.inj h
     obtain ⟨d, i, yy, _, _, hu, _, _, hk'⟩ := kindOf_run hτ hk (fun _ _ => trivial) (by simp)
     obtain ⟨ms, rfl⟩ := hk'
     refine two (fun op hop => eqGuard_plain (.inr ⟨by simp, by simp⟩)) ?_ rfl rfl
     exact equalIn_nil_l hu 9999
   · cases h
 · obtain rfl := rep_s hy
   cases hx with
   | iface ty z v hz =>
   split at h
   · rename_i hk
     obtain rfl := Option.some.inj h
     obtain ⟨d, i, yy, _, _, hu, _, _, hk'⟩ := kindOf_run hτ hk (fun _ _ => trivial) (by simp)
     obtain ⟨ms, rfl⟩ := hk'
     refine two (fun op hop => eqGuard_plain (.inl ⟨by simp, by simp⟩)) ?_ rfl rfl
     exact equalIn_nil_r hu 9999
   · cases h
 · rename_i xs ys
   cases rep_d hx with
   | agg _ vs hl h1 hr =>
   cases rep_d hy with
   | agg _ us hl2 h12 hr2 =>
   split at h
   · rename_i yt hyt
     split at h
     · rename_i fs hk he
       obtain ⟨d, i, hu, hi, hs, _, _, _, hk', _, heq⟩ := hτ.get hyt
       obtain ⟨hf, hst, hg, hn⟩ := heq he
       rw [hk] at hk'
       obtain ⟨fields, rfl, hfs⟩ := hk'
       rw [hu] at hf
       have hff : fields = P.fieldsOf t := by simpa using hf
       subst hfs
       rw [hff] at h
       refine two (fun op hop => run_eqGuard_agg w op t xo yo _ _ hg) ?_ rfl rfl
       rw [run_equalIn_agg w 9999 t _ _ (by rw [hu, hff]) hst]
       exact eqFlat_run hτ hn hr hl hr2 hl2 h 9998
     · cases h
   · cases h
 · cases h
def binAV (A : Ar) (τ : Tab) (op : BinOp) (t : TypeId) (xo yo : Operand) (x y : AV) : Option AV :=
 match x, y with
 | .d (.s (.int k a)), .d (.s (.int k' b)) => (match binSc A op yo (.int k a) (.int k' b) with
   | some z => some (.d (.s z))
   | none => none)
 | .d (.s (.str a)), .d (.s (.str b)) => (match binSc A op yo (.str a) (.str b) with
   | some z => some (.d (.s z))
   | none => none)
 | x, y => (match op with
   | .eql => (match eqAV A τ t xo yo x y with
     | some e => some (.d (.s (.bool e)))
     | none => none)
   | .neq => (match eqAV A τ t xo yo x y with
     | some e => some (.d (.s (.bool (A.not e))))
     | none => none)
   | _ => none)
theorem Rel.evl_const (H : Rel X L w0 nt ι S a w) {x : Operand} {c : Sc} (hx : Ua.evl S x = .d (.s c)) : ∀ v, x = .const v → c.val = v := by
 intro v hv
 have := H.evl x
 rw [hx] at this
 have := rep_s this
 subst hv
 simpa [Act.eval] using this.symm
theorem binAV_run (hτ : TabOK P τ) (H : Rel X L w0 nt ι S a w) {op : BinOp} {t : TypeId} {xo yo : Operand} {z : AV}
   (h : binAV Ar.real τ op t xo yo (evl S xo) (evl S yo) = some z) :
   ∃ v, (do eqGuard op t xo yo (a.eval xo) (a.eval yo); Go.binOp op t (a.eval xo) (a.eval yo)).run P w = .ok v w ∧ RepV (rdOf L ι S.h w) ι z v := by
 have hx := H.evl xo
 have hy := H.evl yo
 unfold binAV at h
 split at h
 · rename_i k a1 k' b1 e1 e2
   rw [e1] at hx; rw [e2] at hy
   have hv := rep_s hx
   have hu := rep_s hy
   split at h
   · rename_i z hz
     obtain rfl := Option.some.inj h
     refine ⟨z.val, ?_, .d _ _ (.s z (binSc_ok (rep_ok hx) (rep_ok hy) hz))⟩
     have := binSc_run (P := P) (w := w) (t := t) (H.evl_const e2) hz
     rw [hv, hu]
     simp only [Sem.run_bind, eqGuard_plain (P := P) (w := w) (op := op) (t := t) (xo := xo) (yo := yo) (v := (Sc.int k a1).val) (u := (Sc.int k' b1).val) (.inl ⟨by simp [Sc.val], by simp [Sc.val]⟩), Result.andThen_ok, this]
   · cases h
 · rename_i a1 b1 e1 e2
   rw [e1] at hx; rw [e2] at hy
   have hv := rep_s hx
   have hu := rep_s hy
   split at h
   · rename_i z hz
     obtain rfl := Option.some.inj h
     refine ⟨z.val, ?_, .d _ _ (.s z (binSc_ok (rep_ok hx) (rep_ok hy) hz))⟩
     have := binSc_run (P := P) (w := w) (t := t) (H.evl_const e2) hz
     rw [hv, hu]
     simp only [Sem.run_bind, eqGuard_plain (P := P) (w := w) (op := op) (t := t) (xo := xo) (yo := yo) (v := (Sc.str a1).val) (u := (Sc.str b1).val) (.inl ⟨by simp [Sc.val], by simp [Sc.val]⟩), Result.andThen_ok, this]
   · cases h
 · split at h
   · split at h
     · rename_i e he
       obtain rfl := Option.some.inj h
       exact ⟨.bool e, (eqAV_run hτ hx hy (fun hc => by cases xo <;> simp [isConst] at hc; exact ⟨_, rfl⟩) he).1, .d _ _ (.s (.bool e) trivial)⟩
     · cases h
   · split at h
     · rename_i e he
       obtain rfl := Option.some.inj h
       exact ⟨.bool (!e), (eqAV_run hτ hx hy (fun hc => by cases xo <;> simp [isConst] at hc; exact ⟨_, rfl⟩) he).2, .d _ _ (.s (.bool (!e)) trivial)⟩
     · cases h
   · cases h
end
end Go.Ua
