/- The library of this claim and its walks, part 3, joined out of smaller texts. No statement stands in it. -/
import Derived.Test.YtlcgjeafmbbipaaDoorUaM2
import Derived.Laws.Strings
import Derived.Laws.Strings2
import Derived.Laws.Slices
import Derived.Lib.Strings
/- The operations on abstract values that leave the world as it is, continued: arithmetic, strings, fields, elements, slices. A library of this claim's own: no statement stands in it. -/
namespace Go.Ua
open Go
set_option linter.unusedVariables false
set_option linter.unusedSimpArgs false

/-- The text that such bytes are. -/
def strOf : List Dat → Option (List UInt8)
  | [] => some []
  | .s (.int .u8 n) :: r => (match strOf r with
    | some l => if n = ((UInt8.ofNat n.toNat).toNat : Int) then some (UInt8.ofNat n.toNat :: l) else none
    | none => none)
  | _ :: _ => none


/-- What a cell holds. -/
inductive SK where
  | str | bool | int (k : IntKind) | view (k : Nat)

def skOK : SK → Dat → Bool
  | .str, .s (.str _) => true
  | .bool, .s (.bool _) => true
  | .int k, .s (.int k' _) => decide (k = k')
  | .view k, .view k' _ => Nat.beq k k'
  | _, _ => false

def sksOK : List SK → List Dat → Bool
  | [], [] => true
  | s :: l, d :: r => skOK s d && sksOK l r
  | _, _ => false

/-- What is reckoned with what is not known while code is evaluated. -/
structure Ar where
  wrap : IntKind → Int → Int
  add : Int → Int → Int
  sub : Int → Int → Int
  mul : Int → Int → Int
  tdiv : Int → Int → Int
  tmod : Int → Int → Int
  nz : Int → Bool
  eqI : Int → Int → Bool
  ltI : Int → Int → Bool
  leI : Int → Int → Bool
  bits : BinOp → IntKind → Int → Int → Int
  shl : IntKind → Int → Int → Option Int
  shr : IntKind → Int → Int → Option Int
  not : Bool → Bool
  eqB : Bool → Bool → Bool
  orB : Bool → Bool → Bool
  andB : Bool → Bool → Bool
  eqS : List UInt8 → List UInt8 → Bool
  ltS : List UInt8 → List UInt8 → Bool
  cat : List UInt8 → List UInt8 → Option (List UInt8)
  lenS : List UInt8 → Int
  getS : List UInt8 → Int → Option Int
  cutS : List UInt8 → Int → Int → Option (List UInt8)
  lenD : List Dat → Int
  getD : List Dat → Int → Option Dat
  nthD : List Dat → Nat → Option Dat
  cutD : List Dat → Int → Int → Option (List Dat)
  inB : Int → Nat → Option Nat
  inL : List Dat → Int → Option Nat
  cutL : List Dat → Int → Int → Option (Option (Nat × Nat))
  setD : List Dat → Nat → Dat → List Dat
  appD : List Dat → List Dat → List Dat
  subD : List Dat → Nat → Nat → List Dat
  repD : Int → Dat → Option (List Dat)
  bytesD : List UInt8 → List Dat
  strD : List Dat → Option (List UInt8)
  fits : Nat → List Dat → Bool
  natI : Nat → Int
  addN : Nat → Nat → Nat
  subN : Nat → Nat → Nat
  cutN : Nat → Int → Int → Option (Option (Nat × Nat))
  max : Int → Int → Int
  min : Int → Int → Int

def getI {α : Type} (l : List α) (n : Int) : Option α := if 0 ≤ n then l[n.toNat]? else none
def cutI {α : Type} (l : List α) (lo hi : Int) : Option (List α) := if 0 ≤ lo ∧ lo ≤ hi ∧ hi ≤ (l.length : Int) then some ((l.take hi.toNat).drop lo.toNat) else none

def Ar.real : Ar where
  wrap := IntKind.wrap
  add a b := a + b
  sub a b := a - b
  mul a b := a * b
  tdiv a b := a.tdiv b
  tmod a b := a.tmod b
  nz n := n != 0
  eqI a b := a == b
  ltI a b := decide (a < b)
  leI a b := decide (a ≤ b)
  bits op k a b := Go.bits op k a b
  shl k a b := if b < 0 then none else some (k.wrap (a * 2 ^ (Min.min b.toNat k.bits)))
  shr k a b := if b < 0 then none else some (a.fdiv (2 ^ (Min.min b.toNat k.bits)))
  not b := !b
  eqB a b := a == b
  orB a b := a || b
  andB a b := a && b
  eqS a b := a == b
  ltS a b := Op.bytesLess a b
  cat a b := if ((a.length + b.length : Nat) : Int) > IntKind.i64.max then none else some (a ++ b)
  lenS l := l.length
  getS l n := (getI l n).map fun b => (b.toNat : Int)
  cutS l lo hi := cutI l lo hi
  lenD l := l.length
  getD l n := getI l n
  nthD l n := l[n]?
  cutD l lo hi := cutI l lo hi
  inB i n := if 0 ≤ i ∧ i < (n : Int) then some i.toNat else none
  inL l i := if 0 ≤ i ∧ i < (l.length : Int) then some i.toNat else none
  cutL l lo hi := if 0 ≤ lo ∧ lo ≤ hi ∧ hi ≤ (l.length : Int) then (if lo = hi then some none else some (some (lo.toNat, hi.toNat - lo.toNat))) else none
  setD l i x := l.set i x
  appD a b := a ++ b
  subD l i n := (l.drop i).take n
  repD n x := if 0 ≤ n ∧ n ≤ 34359738368 then some (List.replicate n.toNat x) else none
  bytesD l := l.map fun c => .s (.int .u8 c.toNat)
  strD l := strOf l
  fits b l := decide (l.length * b ≤ 70368744177664)
  natI n := n
  addN a b := a + b
  subN a b := a - b
  cutN n lo hi := if 0 ≤ lo ∧ lo ≤ hi ∧ hi ≤ (n : Int) then (if lo.toNat = n ∧ n ≠ 0 then some none else some (some (lo.toNat, hi.toNat))) else none
  max a b := if b > a then b else a
  min a b := if b < a then b else a

/-- The same behind one letter: so an evaluation leaves 'F .add x y' as it is. -/
inductive K where
  | wrap
  | add
  | sub
  | mul
  | tdiv
  | tmod
  | nz
  | eqI
  | ltI
  | leI
  | bits
  | shl
  | shr
  | not
  | eqB
  | orB
  | andB
  | eqS
  | ltS
  | cat
  | lenS
  | getS
  | cutS
  | lenD
  | getD
  | nthD
  | cutD
  | inB
  | inL
  | cutL
  | setD
  | appD
  | subD
  | repD
  | bytesD
  | strD
  | fits
  | natI
  | addN
  | subN
  | cutN
  | max
  | min
  | hasS
  | atS
  | hasC
  | subS
  | hasCat
  | app
  | hasD
  | cellD
  | strA
  | boolA
  | intA
  | viewA
  | hasV
  | subV
  | hasStr
  | ofStr
  | iteB

@[reducible] def K.ty : K → Type
  | .wrap => IntKind → Int → Int
  | .add => Int → Int → Int
  | .sub => Int → Int → Int
  | .mul => Int → Int → Int
  | .tdiv => Int → Int → Int
  | .tmod => Int → Int → Int
  | .nz => Int → Bool
  | .eqI => Int → Int → Bool
  | .ltI => Int → Int → Bool
  | .leI => Int → Int → Bool
  | .bits => BinOp → IntKind → Int → Int → Int
  | .shl => IntKind → Int → Int → Option Int
  | .shr => IntKind → Int → Int → Option Int
  | .not => Bool → Bool
  | .eqB => Bool → Bool → Bool
  | .orB => Bool → Bool → Bool
  | .andB => Bool → Bool → Bool
  | .eqS => List UInt8 → List UInt8 → Bool
  | .ltS => List UInt8 → List UInt8 → Bool
  | .cat => List UInt8 → List UInt8 → Option (List UInt8)
  | .lenS => List UInt8 → Int
  | .getS => List UInt8 → Int → Option Int
  | .cutS => List UInt8 → Int → Int → Option (List UInt8)
  | .lenD => List Dat → Int
  | .getD => List Dat → Int → Option Dat
  | .nthD => List Dat → Nat → Option Dat
  | .cutD => List Dat → Int → Int → Option (List Dat)
  | .inB => Int → Nat → Option Nat
  | .inL => List Dat → Int → Option Nat
  | .cutL => List Dat → Int → Int → Option (Option (Nat × Nat))
  | .setD => List Dat → Nat → Dat → List Dat
  | .appD => List Dat → List Dat → List Dat
  | .subD => List Dat → Nat → Nat → List Dat
  | .repD => Int → Dat → Option (List Dat)
  | .bytesD => List UInt8 → List Dat
  | .strD => List Dat → Option (List UInt8)
  | .fits => Nat → List Dat → Bool
  | .natI => Nat → Int
  | .addN => Nat → Nat → Nat
  | .subN => Nat → Nat → Nat
  | .cutN => Nat → Int → Int → Option (Option (Nat × Nat))
  | .max => Int → Int → Int
  | .min => Int → Int → Int
  | .hasS => List UInt8 → Int → Bool
  | .atS => List UInt8 → Int → Int
  | .hasC => List UInt8 → Int → Int → Bool
  | .subS => List UInt8 → Int → Int → List UInt8
  | .hasCat => List UInt8 → List UInt8 → Bool
  | .app => List UInt8 → List UInt8 → List UInt8
  | .hasD => List Dat → Int → List SK → Bool
  | .cellD => List Dat → Int → Nat → Dat
  | .strA => List Dat → Int → Nat → List UInt8
  | .boolA => List Dat → Int → Nat → Bool
  | .intA => List Dat → Int → Nat → Int
  | .viewA => List Dat → Int → Nat → List Dat
  | .hasV => List Dat → Int → Int → Bool
  | .subV => List Dat → Int → Int → List Dat
  | .hasStr => List Dat → Bool
  | .ofStr => List Dat → List UInt8
  | .iteB => Bool → Bool → Bool → Bool

abbrev Fam := (k : K) → k.ty

def Ar.of (F : Fam) : Ar where
  wrap := F .wrap
  add := F .add
  sub := F .sub
  mul := F .mul
  tdiv := F .tdiv
  tmod := F .tmod
  nz := F .nz
  eqI := F .eqI
  ltI := F .ltI
  leI := F .leI
  bits := F .bits
  shl := F .shl
  shr := F .shr
  not := F .not
  eqB := F .eqB
  orB := F .orB
  andB := F .andB
  eqS := F .eqS
  ltS := F .ltS
  cat := F .cat
  lenS := F .lenS
  getS := F .getS
  cutS := F .cutS
  lenD := F .lenD
  getD := F .getD
  nthD := F .nthD
  cutD := F .cutD
  inB := F .inB
  inL := F .inL
  cutL := F .cutL
  setD := F .setD
  appD := F .appD
  subD := F .subD
  repD := F .repD
  bytesD := F .bytesD
  strD := F .strD
  fits := F .fits
  natI := F .natI
  addN := F .addN
  subN := F .subN
  cutN := F .cutN
  max := F .max
  min := F .min

def Fam.real : Fam := fun k => match k with
  | .wrap => Ar.real.wrap
  | .add => Ar.real.add
  | .sub => Ar.real.sub
  | .mul => Ar.real.mul
  | .tdiv => Ar.real.tdiv
  | .tmod => Ar.real.tmod
  | .nz => Ar.real.nz
  | .eqI => Ar.real.eqI
  | .ltI => Ar.real.ltI
  | .leI => Ar.real.leI
  | .bits => Ar.real.bits
  | .shl => Ar.real.shl
  | .shr => Ar.real.shr
  | .not => Ar.real.not
  | .eqB => Ar.real.eqB
  | .orB => Ar.real.orB
  | .andB => Ar.real.andB
  | .eqS => Ar.real.eqS
  | .ltS => Ar.real.ltS
  | .cat => Ar.real.cat
  | .lenS => Ar.real.lenS
  | .getS => Ar.real.getS
  | .cutS => Ar.real.cutS
  | .lenD => Ar.real.lenD
  | .getD => Ar.real.getD
  | .nthD => Ar.real.nthD
  | .cutD => Ar.real.cutD
  | .inB => Ar.real.inB
  | .inL => Ar.real.inL
  | .cutL => Ar.real.cutL
  | .setD => Ar.real.setD
  | .appD => Ar.real.appD
  | .subD => Ar.real.subD
  | .repD => Ar.real.repD
  | .bytesD => Ar.real.bytesD
  | .strD => Ar.real.strD
  | .fits => Ar.real.fits
  | .natI => Ar.real.natI
  | .addN => Ar.real.addN
  | .subN => Ar.real.subN
  | .cutN => Ar.real.cutN
  | .max => Ar.real.max
  | .min => Ar.real.min
  | .hasS => fun l n => decide (0 ≤ n) && decide (n < (l.length : Int))
  | .atS => fun l n => (l.getD n.toNat 0).toNat
  | .hasC => fun l i j => decide (0 ≤ i) && (decide (i ≤ j) && decide (j ≤ (l.length : Int)))
  | .subS => fun l i j => (l.take j.toNat).drop i.toNat
  | .hasCat => fun a b => decide (a.length + b.length ≤ 9223372036854775807)
  | .app => fun a b => a ++ b
  | .hasD => fun l n sk => match getI l n with | some d => sksOK sk d.cells | none => false
  | .cellD => fun l n j => ((l.getD n.toNat (.agg [])).cells).getD j (.agg [])
  | .strA => fun l n j => match ((l.getD n.toNat (.agg [])).cells).getD j (.agg []) with | .s (.str s) => s | _ => []
  | .boolA => fun l n j => match ((l.getD n.toNat (.agg [])).cells).getD j (.agg []) with | .s (.bool s) => s | _ => false
  | .intA => fun l n j => match ((l.getD n.toNat (.agg [])).cells).getD j (.agg []) with | .s (.int _ s) => s | _ => 0
  | .viewA => fun l n j => match ((l.getD n.toNat (.agg [])).cells).getD j (.agg []) with | .view _ s => s | _ => []
  | .hasV => fun l i j => decide (0 ≤ i) && (decide (i ≤ j) && decide (j ≤ (l.length : Int)))
  | .subV => fun l i j => (l.take j.toNat).drop i.toNat
  | .hasStr => fun l => (strOf l).isSome
  | .ofStr => fun l => (strOf l).getD []
  | .iteB => fun b x y => if b then x else y

theorem Ar.of_real : Ar.of Fam.real = Ar.real := rfl
theorem real_ex : ∃ F : Fam, F = Fam.real := ⟨_, rfl⟩

section
variable {X L : Nat → Prop} {w0 : W0} {w : World} {nt : Nat} {ι : Io} {S : St} {a : Act} {P : Program} {τ : Tab}

/-! ### Binary operations on scalars -/

/-- Is the divisor 0? A constant tells by itself. -/
def nzOp (A : Ar) (yo : Operand) (n : Int) : Bool := match yo with
  | .const _ => !(n == 0)
  | _ => A.nz n

def binSc (A : Ar) (op : BinOp) (yo : Operand) (x y : Sc) : Option Sc :=
  match x, y with
  | .int k a, .int k' b => (match op with
    | .shl => (match A.shl k a b with
      | some n => some (.int k n)
      | none => none)
    | .shr => (match A.shr k a b with
      | some n => some (.int k n)
      | none => none)
    | op => if k = k' then (match op with
      | .add => some (.int k (A.wrap k (A.add a b)))
      | .sub => some (.int k (A.wrap k (A.sub a b)))
      | .mul => some (.int k (A.wrap k (A.mul a b)))
      | .quo => (match nzOp A yo b with
        | true => some (.int k (A.wrap k (A.tdiv a b)))
        | false => none)
      | .rem => (match nzOp A yo b with
        | true => some (.int k (A.tmod a b))
        | false => none)
      | .and => some (.int k (A.bits .and k a b))
      | .or => some (.int k (A.bits .or k a b))
      | .xor => some (.int k (A.bits .xor k a b))
      | .andNot => some (.int k (A.bits .andNot k a b))
      | .eql => some (.bool (A.eqI a b))
      | .neq => some (.bool (A.not (A.eqI a b)))
      | .lss => some (.bool (A.ltI a b))
      | .leq => some (.bool (A.leI a b))
      | .gtr => some (.bool (A.ltI b a))
      | .geq => some (.bool (A.leI b a))
      | _ => none) else none)
  | .str a, .str b => (match op with
    | .add => (match A.cat a b with
      | some l => some (.str l)
      | none => none)
    | .eql => some (.bool (A.eqS a b))
    | .neq => some (.bool (A.not (A.eqS a b)))
    | .lss => some (.bool (A.ltS a b))
    | .leq => some (.bool (A.orB (A.ltS a b) (A.eqS a b)))
    | .gtr => some (.bool (A.not (A.orB (A.ltS a b) (A.eqS a b))))
    | .geq => some (.bool (A.not (A.ltS a b)))
    | _ => none)
  | _, _ => none

theorem str_size (l : List UInt8) : (ByteArray.mk l.toArray).size = l.length := by simp [ByteArray.size]
theorem str_append (a b : List UInt8) : ByteArray.mk a.toArray ++ ByteArray.mk b.toArray = ByteArray.mk (a ++ b).toArray := by
  apply ByteArray.ext
  simp [ByteArray.data_append]

theorem binSc_run {op : BinOp} {t : TypeId} {yo : Operand} {x y z : Sc} (hc : ∀ v, yo = .const v → y.val = v) (h : binSc Ar.real op yo x y = some z) :
    (Go.binOp op t x.val y.val).run P w = .ok z.val w := by
  cases x <;> cases y <;> simp only [binSc] at h <;> try (cases h)
  case int.int k a k' b =>
    split at h
    · split at h
      · rename_i n hn
        obtain rfl := Option.some.inj h
        simp only [Ar.real] at hn
        split at hn
        · cases hn
        · rename_i hb
          obtain rfl := Option.some.inj hn
          simp [Go.binOp, Sc.val, Op.shift, hb]
      · cases h
    · split at h
      · rename_i n hn
        obtain rfl := Option.some.inj h
        simp only [Ar.real] at hn
        split at hn
        · cases hn
        · rename_i hb
          obtain rfl := Option.some.inj hn
          simp [Go.binOp, Sc.val, Op.shift, hb]
      · cases h
    · split at h
      · rename_i hk
        subst hk
        have hz : nzOp Ar.real yo b = true → b ≠ 0 := by
          intro hz
          unfold nzOp at hz
          split at hz
          · simpa using hz
          · simpa [Ar.real] using hz
        cases op <;> simp only at h <;> try (cases h; done)
        case quo =>
          split at h
          · rename_i hz'
            obtain rfl := Option.some.inj h
            simp [Go.binOp, Sc.val, Op.intDiv, hz hz', Ar.real]
          · cases h
        case rem =>
          split at h
          · rename_i hz'
            obtain rfl := Option.some.inj h
            simp [Go.binOp, Sc.val, Op.intDiv, hz hz', Ar.real]
          · cases h
        all_goals first
          | contradiction
          | (obtain rfl := Option.some.inj h
             simp [Go.binOp, Sc.val, Op.intArith, Op.intCmp, Op.intBits, Ar.real, Go.bits, bne]; done)
          | (obtain rfl := Option.some.inj h
             simp [Go.binOp, Sc.val, Op.intArith, Op.intCmp, Op.intBits, Ar.real, Go.bits, bne] <;> rfl)
      · cases h
  case str.str a b =>
    cases op <;> simp only at h <;> try (cases h; done)
    case add =>
      split at h
      · rename_i l hl
        obtain rfl := Option.some.inj h
        simp only [Ar.real] at hl
        split at hl
        · cases hl
        · rename_i hle
          obtain rfl := Option.some.inj hl
          simp only [Go.binOp, Sc.val, Op.stringOp, str_size, str_append]
          rw [if_neg hle]
          rfl
      · cases h
    all_goals first
      | contradiction
      | (obtain rfl := Option.some.inj h
         simp [Go.binOp, Sc.val, Op.stringOp, Ar.real]; done)

theorem tmod_within (k : IntKind) {a b : Int} (h : k.min ≤ a ∧ a ≤ k.max) : k.min ≤ a.tmod b ∧ a.tmod b ≤ k.max := by
  have hk : k.min ≤ 0 ∧ 0 ≤ k.max := by cases k <;> decide
  rcases Int.le_total 0 a with h0 | h0
  · have h1 := Int.tmod_nonneg b h0
    have h2 : a.tmod b ≤ a := by
      have := Int.natAbs_tmod a b
      have h3 : a.natAbs % b.natAbs ≤ a.natAbs := Nat.mod_le _ _
      omega
    omega
  · have h1 : a.tmod b ≤ 0 := by
      have := Int.tmod_nonneg b (a := -a) (by omega)
      rw [Int.neg_tmod] at this
      omega
    have h2 : a ≤ a.tmod b := by
      have := Int.natAbs_tmod a b
      have h3 : a.natAbs % b.natAbs ≤ a.natAbs := Nat.mod_le _ _
      omega
    omega

theorem fdiv_within (k : IntKind) {a : Int} (n : Nat) (h : k.min ≤ a ∧ a ≤ k.max) : k.min ≤ a.fdiv (2 ^ n) ∧ a.fdiv (2 ^ n) ≤ k.max := by
  have hk : k.min ≤ 0 ∧ 0 ≤ k.max := by cases k <;> decide
  have hp : (1 : Int) ≤ 2 ^ n := by
    have := Nat.one_le_two_pow (n := n)
    have h2 : ((2 ^ n : Nat) : Int) = 2 ^ n := by simp
    omega
  rw [Int.fdiv_eq_ediv_of_nonneg _ (by omega)]
  rcases Int.le_total 0 a with h0 | h0
  · have h1 : 0 ≤ a / 2 ^ n := Int.ediv_nonneg h0 (by omega)
    have h2 : a / 2 ^ n ≤ a := Int.ediv_le_self _ h0
    omega
  · have h1 : a ≤ a / 2 ^ n := by
      rw [Int.le_ediv_iff_mul_le (by omega)]
      have h3 : (-a) * 1 ≤ (-a) * 2 ^ n := Int.mul_le_mul_of_nonneg_left hp (by omega)
      have h4 : a * 2 ^ n = -((-a) * 2 ^ n) := by rw [Int.neg_mul, Int.neg_neg]
      omega
    have h2 : a / 2 ^ n ≤ 0 := by
      have : a / 2 ^ n ≤ 0 / 2 ^ n := Int.ediv_le_ediv (by omega) h0
      simpa using this
    omega

theorem binSc_ok {op : BinOp} {yo : Operand} {x y z : Sc} (hx : x.ok) (hy : y.ok) (h : binSc Ar.real op yo x y = some z) : z.ok := by
  cases x <;> cases y <;> simp only [binSc] at h <;> try (cases h)
  case int.int k a k' b =>
    split at h
    · split at h
      · rename_i n hn
        obtain rfl := Option.some.inj h
        simp only [Ar.real] at hn
        split at hn
        · cases hn
        · obtain rfl := Option.some.inj hn
          exact ok_wrap _ _
      · cases h
    · split at h
      · rename_i n hn
        obtain rfl := Option.some.inj h
        simp only [Ar.real] at hn
        split at hn
        · cases hn
        · obtain rfl := Option.some.inj hn
          exact fdiv_within _ _ hx
      · cases h
    · split at h
      · rename_i hk
        subst hk
        cases op <;> simp only at h <;> try (cases h; done)
        all_goals first
          | contradiction
          | (obtain rfl := Option.some.inj h; trivial)
          | (obtain rfl := Option.some.inj h; exact ok_wrap _ _)
          | (obtain rfl := Option.some.inj h; exact bits_within _ _ _ _)
          | (split at h
             · obtain rfl := Option.some.inj h; first | exact ok_wrap _ _ | exact tmod_within _ hx
             · cases h)
      · cases h
  case str.str a b =>
    cases op <;> simp only at h <;> try (cases h; done)
    all_goals first
      | contradiction
      | (obtain rfl := Option.some.inj h; trivial)
      | (split at h
         · rename_i l hl
           obtain rfl := Option.some.inj h
           simp only [Ar.real] at hl
           split at hl
           · cases hl
           · rename_i hle
             obtain rfl := Option.some.inj hl
             have hm : IntKind.i64.max = 9223372036854775807 := by decide
             rw [hm] at hle
             show (a ++ b).length ≤ maxLen
             simp only [List.length_append, maxLen]
             omega
         · cases h)

end
end Go.Ua

/- The operations on abstract values that leave the world as it is, put together. A library of this claim's own: no statement stands in it. -/
namespace Go.Ua
open Go
set_option linter.unusedVariables false
set_option linter.unusedSimpArgs false

section
variable {X L : Nat → Prop} {w0 : W0} {w : World} {nt : Nat} {ι : Io} {S : St} {a : Act} {P : Program} {τ : Tab}

/-! ### Equality -/

def kindOf (τ : Tab) (t : TypeId) : TK := match look t τ with
  | some y => y.k
  | none => .other

/-- Equality of two structs of scalars, field by field. -/
def eqFlat (A : Ar) (τ : Tab) : List (Nat × TypeId) → List Dat → List Dat → Option Bool
  | [], _, _ => some true
  | (o, t) :: r, xs, ys => match kindOf τ t, xs[o]?, ys[o]? with
    | .int _, some (.s (.int k a)), some (.s (.int k' b)) => if k = k' then (match eqFlat A τ r xs ys with
      | some e => some (A.andB (A.eqI a b) e)
      | none => none) else none
    | .string, some (.s (.str a)), some (.s (.str b)) => (match eqFlat A τ r xs ys with
      | some e => some (A.andB (A.eqS a b) e)
      | none => none)
    | .bool, some (.s (.bool a)), some (.s (.bool b)) => (match eqFlat A τ r xs ys with
      | some e => some (A.andB (A.eqB a b) e)
      | none => none)
    | _, _, _ => none

theorem kindOf_run (hτ : TabOK P τ) {t : TypeId} {k : TK} (h : kindOf τ t = k) (hk : ∀ d, ¬ TK.ok d .other → True) (ho : k ≠ .other) :
    ∃ d i y, look t τ = some y ∧ y.k = k ∧ P.underlying t = some d ∧ P.info? t = some i ∧ i.size = y.size ∧ k.ok d := by
  unfold kindOf at h
  split at h
  · rename_i y hy
    obtain ⟨d, i, hu, hi, hs, _, _, _, hk, _⟩ := hτ.get hy
    exact ⟨d, i, y, hy, h, hu, hi, hs, h ▸ hk⟩
  · exact absurd h.symm ho

theorem part_scalar {t : TypeId} {d : TypeDesc} {k : TK} (hu : P.underlying t = some d) (hk : k.ok d) (hag : k.isAgg = false) {cs : Array Value} {o : Nat} {v : Value} (hv : cs[o]? = some v) :
    (part t cs o).run P w = .ok v w := by
  simp [part, Sem.run_bind, TK.isAgg_run hu hk, hag, hv]

theorem eqFlat_run (hτ : TabOK P τ) {fs : List Field} {xs ys : List Dat} {vs us : List Value} {R : Rd}
    (hn : (fs.all fun f => f.name != "_") = true)
    (hx : ∀ (i : Nat) (c : Dat) (v : Value), xs[i]? = some c → vs[i]? = some v → RepD R c v) (hlx : xs.length = vs.length)
    (hy : ∀ (i : Nat) (c : Dat) (v : Value), ys[i]? = some c → us[i]? = some v → RepD R c v) (hly : ys.length = us.length) {e : Bool}
    (h : eqFlat Ar.real τ (fs.map fun f => (f.offset, f.type)) xs ys = some e) (n : Nat) :
    (Op.eqFields (n + 1) vs.toArray us.toArray fs).run P w = .ok e w := by
  induction fs generalizing e with
  | nil => simp [eqFlat] at h; subst h; simp [Op.eqFields]
  | cons f r ih =>
    simp only [List.all_cons, Bool.and_eq_true] at hn
    have hfn : f.name ≠ "_" := by simpa using hn.1
    simp only [List.map_cons, eqFlat] at h
    have key : ∀ (x y : Sc) (q : Bool), xs[f.offset]? = some (.s x) → ys[f.offset]? = some (.s y) →
        (∀ u' v', u' = x.val → v' = y.val → (Op.equalIn (n + 1) f.type u' v').run P w = .ok q w) → kindOf τ f.type ≠ .other → (kindOf τ f.type).isAgg = false →
        ∀ e', eqFlat Ar.real τ (r.map fun f => (f.offset, f.type)) xs ys = some e' →
        (Op.eqFields (n + 1) vs.toArray us.toArray (f :: r)).run P w = .ok (q && e') w := by
      intro x y q hxo hyo hq ho hag e' he'
      obtain ⟨d, i, yy, _, _, hu, _, _, hk⟩ := kindOf_run hτ rfl (fun _ _ => trivial) ho
      have hvo : vs[f.offset]? = some x.val := by
        have hlt : f.offset < vs.length := hlx ▸ (List.getElem?_eq_some_iff.1 hxo).1
        have := hx _ _ _ hxo (List.getElem?_eq_getElem hlt)
        rw [List.getElem?_eq_getElem hlt, this.sc]
      have huo : us[f.offset]? = some y.val := by
        have hlt : f.offset < us.length := hly ▸ (List.getElem?_eq_some_iff.1 hyo).1
        have := hy _ _ _ hyo (List.getElem?_eq_getElem hlt)
        rw [List.getElem?_eq_getElem hlt, this.sc]
      simp only [Op.eqFields, if_pos hfn, Sem.run_bind, part_scalar (P := P) (w := w) hu hk hag (cs := vs.toArray) (by simpa using hvo),
        part_scalar (P := P) (w := w) hu hk hag (cs := us.toArray) (by simpa using huo), Result.andThen_ok, hq _ _ rfl rfl]
      cases q
      · simp
      · simp [ih hn.2 he']
    split at h
    · rename_i k0 k1 a k2 b hk hxo hyo
      by_cases hkk : k1 = k2
      case neg => rw [if_neg hkk] at h; cases h
      rw [if_pos hkk] at h
      subst hkk
      split at h
      · rename_i e' he'
        obtain rfl := Option.some.inj h
        refine key _ _ (a == b) hxo hyo (fun u' v' h1 h2 => ?_) (by rw [hk]; simp) (by rw [hk]; rfl) e' he'
        obtain ⟨d, i, yy, _, _, hu, _, _, hk'⟩ := kindOf_run hτ hk (fun _ _ => trivial) (by simp)
        subst h1; subst h2
        simp only [TK.ok] at hk'
        subst hk'
        exact run_equalIn_int w n f.type _ _ _ _ hu
      · cases h
    · rename_i a b hk hxo hyo
      split at h
      · rename_i e' he'
        obtain rfl := Option.some.inj h
        refine key _ _ (a == b) hxo hyo (fun u' v' h1 h2 => ?_) (by rw [hk]; simp) (by rw [hk]; rfl) e' he'
        obtain ⟨d, i, yy, _, _, hu, _, _, hk'⟩ := kindOf_run hτ hk (fun _ _ => trivial) (by simp)
        subst h1; subst h2
        simp only [TK.ok] at hk'
        subst hk'
        simp only [Sc.val]
        rw [run_equalIn_string w n f.type _ _ hu]
        simp
      · cases h
    · rename_i a b hk hxo hyo
      split at h
      · rename_i e' he'
        obtain rfl := Option.some.inj h
        refine key _ _ (a == b) hxo hyo (fun u' v' h1 h2 => ?_) (by rw [hk]; simp) (by rw [hk]; rfl) e' he'
        obtain ⟨d, i, yy, _, _, hu, _, _, hk'⟩ := kindOf_run hτ hk (fun _ _ => trivial) (by simp)
        subst h1; subst h2
        simp only [TK.ok] at hk'
        subst hk'
        exact run_equalIn_bool' w n f.type _ _ hu
      · cases h
    · cases h


def isConst : Operand → Bool
  | .const _ => true
  | _ => false

/-- '==' ('ne': '!='). -/
def eqAV (A : Ar) (τ : Tab) (t : TypeId) (xo yo : Operand) (x y : AV) : Option Bool :=
  match x, y with
  | .d (.s (.bool a)), .d (.s (.bool b)) => (match kindOf τ t with
    | .bool => some (A.eqB a b)
    | _ => none)
  | .d (.s .if0), .d (.s .if0) => (match kindOf τ t with
    | .iface => if isConst xo || isConst yo then some true else none
    | _ => none)
  | .d (.s .if0), .d (.iface _ _) => (match kindOf τ t with
    | .iface => some false
    | _ => none)
  | .d (.iface _ _), .d (.s .if0) => (match kindOf τ t with
    | .iface => some false
    | _ => none)
  | .d (.iface t1 _), .d (.iface t2 _) => (match kindOf τ t, Nat.beq t1 t2 with
    | .iface, false => some false
    | _, _ => none)
  | .d (.s .if0), .iface _ _ => (match kindOf τ t with
    | .iface => some false
    | _ => none)
  | .iface _ _, .d (.s .if0) => (match kindOf τ t with
    | .iface => some false
    | _ => none)
  | .d (.agg xs), .d (.agg ys) => (match look t τ with
    | some y => (match y.k, y.eq with
      | .struct fs, true => eqFlat A τ fs xs ys
      | _, _ => none)
    | none => none)
  | _, _ => none

theorem eqGuard_plain {op : BinOp} {t : TypeId} {xo yo : Operand} {v u : Value} (h : (∀ c, v ≠ .agg c) ∧ v ≠ .nilIface ∨ (∀ c, u ≠ .agg c) ∧ u ≠ .nilIface) :
    (eqGuard op t xo yo v u).run P w = .ok () w := by
  unfold eqGuard
  cases op <;> cases v <;> cases u <;> first
    | rfl
    | (simp at h; done)

theorem equalIn_nil2 {t : TypeId} {ms : Array (String × TypeId)} (hu : P.underlying t = some (.interface ms)) (n : Nat) : (Op.equalIn (n + 1) t .nilIface .nilIface).run P w = .ok true w := by
  simp [Op.equalIn, run_underlying hu]
theorem equalIn_nil_l {t tx : TypeId} {v : Value} {ms : Array (String × TypeId)} (hu : P.underlying t = some (.interface ms)) (n : Nat) : (Op.equalIn (n + 1) t .nilIface (.iface tx v)).run P w = .ok false w := by
  simp [Op.equalIn, run_underlying hu]
theorem equalIn_nil_r {t tx : TypeId} {v : Value} {ms : Array (String × TypeId)} (hu : P.underlying t = some (.interface ms)) (n : Nat) : (Op.equalIn (n + 1) t (.iface tx v) .nilIface).run P w = .ok false w := by
  simp [Op.equalIn, run_underlying hu]

theorem equalIn_ne {t tx ty : TypeId} {v u : Value} {ms : Array (String × TypeId)} (hu : P.underlying t = some (.interface ms)) (hne : tx ≠ ty) (n : Nat) : (Op.equalIn (n + 1) t (.iface tx v) (.iface ty u)).run P w = .ok false w := by
  simp [Op.equalIn, run_underlying hu, hne]

theorem eqAV_run (hτ : TabOK P τ) {R : Rd} {t : TypeId} {xo yo : Operand} {x y : AV} {v u : Value} (hx : RepV R ι x v) (hy : RepV R ι y u)
    (hxc : isConst xo = true → ∃ c, xo = .const c) {e : Bool} (h : eqAV Ar.real τ t xo yo x y = some e) :
    (do eqGuard .eql t xo yo v u; Go.binOp .eql t v u).run P w = .ok (.bool e) w ∧
    (do eqGuard .neq t xo yo v u; Go.binOp .neq t v u).run P w = .ok (.bool (!e)) w := by
  have two : (∀ op, op = .eql ∨ op = .neq → (eqGuard op t xo yo v u).run P w = .ok () w) → (Op.equalIn 10000 t v u).run P w = .ok e w →
      (Go.binOp .eql t v u = do pure (.bool (← Op.equal t v u))) → (Go.binOp .neq t v u = do pure (.bool (!(← Op.equal t v u)))) →
      (do eqGuard .eql t xo yo v u; Go.binOp .eql t v u).run P w = .ok (.bool e) w ∧
      (do eqGuard .neq t xo yo v u; Go.binOp .neq t v u).run P w = .ok (.bool (!e)) w := by
    intro hg he h1 h2
    rw [h1, h2]
    constructor
    · simp [Sem.run_bind, hg .eql (.inl rfl), Op.equal, Op.maxDepth, he]
    · simp [Sem.run_bind, hg .neq (.inr rfl), Op.equal, Op.maxDepth, he]
  unfold eqAV at h
  split at h
  · rename_i a b
    obtain rfl := rep_s hx
    obtain rfl := rep_s hy
    split at h
    · rename_i hk
      obtain rfl := Option.some.inj h
      obtain ⟨d, i, yy, _, _, hu, _, _, hk'⟩ := kindOf_run hτ hk (fun _ _ => trivial) (by simp)
      simp only [TK.ok] at hk'
      subst hk'
      exact two (fun op _ => eqGuard_plain (.inl ⟨by simp [Sc.val], by simp [Sc.val]⟩)) (run_equalIn_bool' w 9999 t a b hu) rfl rfl
    · cases h
  · obtain rfl := rep_s hx
    obtain rfl := rep_s hy
    split at h
    · rename_i hk
      split at h
      · rename_i hc
        obtain rfl := Option.some.inj h
        obtain ⟨d, i, yy, _, _, hu, _, _, hk'⟩ := kindOf_run hτ hk (fun _ _ => trivial) (by simp)
        obtain ⟨ms, rfl⟩ := hk'
        refine two (fun op hop => ?_) ?_ rfl rfl
        · have hcc : (match xo with | .const _ => true | _ => false) = true ∨ (match yo with | .const _ => true | _ => false) = true := by
            simp only [isConst, Bool.or_eq_true] at hc
            exact hc
          unfold eqGuard
          rcases hop with rfl | rfl
          all_goals
            simp only [Sc.val]
            cases xo <;> cases yo <;> simp_all
        · exact equalIn_nil2 hu 9999
      · cases h
    · cases h
  · obtain rfl := rep_s hx
    cases rep_d hy with
    | iface ty z v hz =>
    split at h
    · rename_i hk
      obtain rfl := Option.some.inj h
      obtain ⟨d, i, yy, _, _, hu, _, _, hk'⟩ := kindOf_run hτ hk (fun _ _ => trivial) (by simp)
      obtain ⟨ms, rfl⟩ := hk'
      refine two (fun op hop => eqGuard_plain (.inr ⟨by simp, by simp⟩)) ?_ rfl rfl
      exact equalIn_nil_l hu 9999
    · cases h
  · obtain rfl := rep_s hy
    cases rep_d hx with
    | iface ty z v hz =>
    split at h
    · rename_i hk
      obtain rfl := Option.some.inj h
      obtain ⟨d, i, yy, _, _, hu, _, _, hk'⟩ := kindOf_run hτ hk (fun _ _ => trivial) (by simp)
      obtain ⟨ms, rfl⟩ := hk'
      refine two (fun op hop => eqGuard_plain (.inl ⟨by simp, by simp⟩)) ?_ rfl rfl
      exact equalIn_nil_r hu 9999
    · cases h
  · cases rep_d hx with
    | iface t1 z1 v1 hz1 =>
    cases rep_d hy with
    | iface t2 z2 v2 hz2 =>
    split at h
    · rename_i hk hne
      obtain rfl := Option.some.inj h
      obtain ⟨d, i, yy, _, _, hu, _, _, hk'⟩ := kindOf_run hτ hk (fun _ _ => trivial) (by simp)
      obtain ⟨ms, rfl⟩ := hk'
      have hne' := Nat.ne_of_beq_eq_false hne
      refine two (fun op hop => eqGuard_plain (.inl ⟨by simp, by simp⟩)) ?_ rfl rfl
      exact equalIn_ne hu hne' 9999
    · cases h
  · obtain rfl := rep_s hx
    cases hy with
    | iface ty z v hz =>
    split at h
    · rename_i hk
      obtain rfl := Option.some.inj h
      obtain ⟨d, i, yy, _, _, hu, _, _, hk'⟩ := kindOf_run hτ hk (fun _ _ => trivial) (by simp)
      obtain ⟨ms, rfl⟩ := hk'
      refine two (fun op hop => eqGuard_plain (.inr ⟨by simp, by simp⟩)) ?_ rfl rfl
      exact equalIn_nil_l hu 9999
    · cases h
  · obtain rfl := rep_s hy
    cases hx with
    | iface ty z v hz =>
    split at h
    · rename_i hk
      obtain rfl := Option.some.inj h
      obtain ⟨d, i, yy, _, _, hu, _, _, hk'⟩ := kindOf_run hτ hk (fun _ _ => trivial) (by simp)
      obtain ⟨ms, rfl⟩ := hk'
      refine two (fun op hop => eqGuard_plain (.inl ⟨by simp, by simp⟩)) ?_ rfl rfl
      exact equalIn_nil_r hu 9999
    · cases h
  · rename_i xs ys
    cases rep_d hx with
    | agg _ vs hl h1 hr =>
    cases rep_d hy with
    | agg _ us hl2 h12 hr2 =>
    split at h
    · rename_i yt hyt
      split at h
      · rename_i fs hk he
        obtain ⟨d, i, hu, hi, hs, _, _, _, hk', _, heq⟩ := hτ.get hyt
        obtain ⟨hf, hst, hg, hn⟩ := heq he
        rw [hk] at hk'
        obtain ⟨fields, rfl, hfs⟩ := hk'
        rw [hu] at hf
        have hff : fields = P.fieldsOf t := by simpa using hf
        subst hfs
        rw [hff] at h
        refine two (fun op hop => run_eqGuard_agg w op t xo yo _ _ hg) ?_ rfl rfl
        rw [run_equalIn_agg w 9999 t _ _ (by rw [hu, hff]) hst]
        exact eqFlat_run hτ hn hr hl hr2 hl2 h 9998
      · cases h
    · cases h
  · cases h

def binAV (A : Ar) (τ : Tab) (op : BinOp) (t : TypeId) (xo yo : Operand) (x y : AV) : Option AV :=
  match x, y with
  | .d (.s (.int k a)), .d (.s (.int k' b)) => (match binSc A op yo (.int k a) (.int k' b) with
    | some z => some (.d (.s z))
    | none => none)
  | .d (.s (.str a)), .d (.s (.str b)) => (match binSc A op yo (.str a) (.str b) with
    | some z => some (.d (.s z))
    | none => none)
  | x, y => (match op with
    | .eql => (match eqAV A τ t xo yo x y with
      | some e => some (.d (.s (.bool e)))
      | none => none)
    | .neq => (match eqAV A τ t xo yo x y with
      | some e => some (.d (.s (.bool (A.not e))))
      | none => none)
    | _ => none)

theorem Rel.evl_const (H : Rel X L w0 nt ι S a w) {x : Operand} {c : Sc} (hx : Ua.evl S x = .d (.s c)) : ∀ v, x = .const v → c.val = v := by
  intro v hv
  have := H.evl x
  rw [hx] at this
  have := rep_s this
  subst hv
  simpa [Act.eval] using this.symm

theorem binAV_run (hτ : TabOK P τ) (H : Rel X L w0 nt ι S a w) {op : BinOp} {t : TypeId} {xo yo : Operand} {z : AV}
    (h : binAV Ar.real τ op t xo yo (evl S xo) (evl S yo) = some z) :
    ∃ v, (do eqGuard op t xo yo (a.eval xo) (a.eval yo); Go.binOp op t (a.eval xo) (a.eval yo)).run P w = .ok v w ∧ RepV (rdOf L ι S.h w) ι z v := by
  have hx := H.evl xo
  have hy := H.evl yo
  unfold binAV at h
  split at h
  · rename_i k a1 k' b1 e1 e2
    rw [e1] at hx; rw [e2] at hy
    have hv := rep_s hx
    have hu := rep_s hy
    split at h
    · rename_i z hz
      obtain rfl := Option.some.inj h
      refine ⟨z.val, ?_, .d _ _ (.s z (binSc_ok (rep_ok hx) (rep_ok hy) hz))⟩
      have := binSc_run (P := P) (w := w) (t := t) (H.evl_const e2) hz
      rw [hv, hu]
      simp only [Sem.run_bind, eqGuard_plain (P := P) (w := w) (op := op) (t := t) (xo := xo) (yo := yo) (v := (Sc.int k a1).val) (u := (Sc.int k' b1).val) (.inl ⟨by simp [Sc.val], by simp [Sc.val]⟩), Result.andThen_ok, this]
    · cases h
  · rename_i a1 b1 e1 e2
    rw [e1] at hx; rw [e2] at hy
    have hv := rep_s hx
    have hu := rep_s hy
    split at h
    · rename_i z hz
      obtain rfl := Option.some.inj h
      refine ⟨z.val, ?_, .d _ _ (.s z (binSc_ok (rep_ok hx) (rep_ok hy) hz))⟩
      have := binSc_run (P := P) (w := w) (t := t) (H.evl_const e2) hz
      rw [hv, hu]
      simp only [Sem.run_bind, eqGuard_plain (P := P) (w := w) (op := op) (t := t) (xo := xo) (yo := yo) (v := (Sc.str a1).val) (u := (Sc.str b1).val) (.inl ⟨by simp [Sc.val], by simp [Sc.val]⟩), Result.andThen_ok, this]
    · cases h
  · split at h
    · split at h
      · rename_i e he
        obtain rfl := Option.some.inj h
        exact ⟨.bool e, (eqAV_run hτ hx hy (fun hc => by cases xo <;> simp [isConst] at hc; exact ⟨_, rfl⟩) he).1, .d _ _ (.s (.bool e) trivial)⟩
      · cases h
    · split at h
      · rename_i e he
        obtain rfl := Option.some.inj h
        exact ⟨.bool (!e), (eqAV_run hτ hx hy (fun hc => by cases xo <;> simp [isConst] at hc; exact ⟨_, rfl⟩) he).2, .d _ _ (.s (.bool (!e)) trivial)⟩
      · cases h
    · cases h

end
end Go.Ua

/- Fields, elements, slices, conversions, and all operations that leave the world as it is, put together. A library of this claim's own: no statement stands in it. -/
namespace Go.Ua
open Go
set_option linter.unusedVariables false
set_option linter.unusedSimpArgs false

section
variable {X L : Nat → Prop} {w0 : W0} {w : World} {nt : Nat} {ι : Io} {S : St} {a : Act} {P : Program} {τ : Tab} {R : Rd}

def sizeAt (τ : Tab) (t : TypeId) : Nat := match look t τ with
  | some y => y.size
  | none => 0

theorem sizeAt_run (hτ : TabOK P τ) {t : TypeId} (h : sizeAt τ t ≠ 0) : ∃ i y, look t τ = some y ∧ P.info? t = some i ∧ i.size = sizeAt τ t := by
  unfold sizeAt at *
  split at h
  · rename_i y hy
    obtain ⟨d, i, hu, hi, hs, _⟩ := hτ.get hy
    exact ⟨i, y, hy, hi, hs⟩
  · exact absurd rfl h

/-! ### Fields -/

def fieldAddrAV (τ : Tab) (s : TypeId) (p : AV) (f : Nat) : Option AV :=
  match kindOf τ s with
  | .struct fs => (match fs[f]? with
    | some (o, ft) => (match sizeAt τ ft with
      | 0 => none
      | _ + 1 => (match p with
        | .ptr n i off k => some (.ptr n i (off + o) k)
        | .d (.vref cs) => some (.d (.vref (cs.drop o)))
        | _ => none))
    | none => none)
  | _ => none

theorem vref_drop {cs : List Dat} {b o n : Nat} (h : RepD R (.vref cs) (.pointer (some ⟨b, o, none⟩))) : RepD R (.vref (cs.drop n)) (.pointer (some ⟨b, o + n, none⟩)) := by
  cases h with
  | vref _ _ _ f hr h =>
    refine .vref _ _ _ (fun j => f (n + j)) (fun j c hc => ?_) (fun j c hc => ?_)
    · rw [List.getElem?_drop] at hc
      have := hr _ _ hc
      rw [show o + n + j = o + (n + j) by omega]
      exact this
    · rw [List.getElem?_drop] at hc
      exact h _ _ hc

theorem fieldAddr_run (hτ : TabOK P τ) {s : TypeId} {p x : AV} {f : Nat} {v : Value} (hp : RepV R ι p v) (h : fieldAddrAV τ s p f = some x) :
    ∃ u, (Instr.fieldAt s v f).run P w = .ok u w ∧ RepV R ι x u := by
  unfold fieldAddrAV at h
  split at h
  · rename_i fs hk
    split at h
    · rename_i o ft hf
      split at h
      · cases h
      · rename_i m hm
        obtain ⟨d, i, y, _, _, hu, _, _, hk'⟩ := kindOf_run hτ hk (fun _ _ => trivial) (by simp)
        obtain ⟨fields, rfl, hfs⟩ := hk'
        obtain ⟨i', y', hy', hi', hs'⟩ := sizeAt_run hτ (t := ft) (by omega)
        obtain ⟨fd, hfd, ho, hft⟩ : ∃ fd, fields[f]? = some fd ∧ fd.offset = o ∧ fd.type = ft := by
          rw [← hfs, List.getElem?_map, Option.map_eq_some_iff] at hf
          obtain ⟨fd, h1, h2⟩ := hf
          simp only [Prod.mk.injEq] at h2
          exact ⟨fd, by simpa using h1, h2.1, h2.2⟩
        have hne : ¬ (i'.size = 0) := by omega
        split at h
        · rename_i n i off k
          obtain rfl := Option.some.inj h
          cases hp with
          | ptr _ _ _ _ b c lb hi =>
          refine ⟨.pointer (some ⟨b, i * k + (off + o), none⟩), ?_, .ptr _ _ _ _ _ _ _ hi⟩
          simp [Instr.fieldAt, run_underlying hu, hfd, Instr.sureAddr, fieldPlace, hft, sizeOf_run hi', hne, Addr.add_lit, ho, Nat.add_assoc]
        · rename_i cs
          obtain rfl := Option.some.inj h
          have hp' := rep_d hp
          obtain ⟨b, o', rfl⟩ : ∃ b o', v = .pointer (some ⟨b, o', none⟩) := by cases hp'; exact ⟨_, _, rfl⟩
          refine ⟨.pointer (some ⟨b, o' + o, none⟩), ?_, .d _ _ (vref_drop hp')⟩
          simp [Instr.fieldAt, run_underlying hu, hfd, Instr.sureAddr, fieldPlace, hft, sizeOf_run hi', hne, Addr.add_lit, ho]
        · cases h
    · cases h
  · cases h

/-- A part of a struct or of an array: from a place on. -/
def partAV (τ : Tab) (t : TypeId) (cs : List AV) (o : Nat) : Option AV :=
  match look t τ with
  | some y => (match y.k.isAgg with
    | true => if o + y.size ≤ cs.length then some (mkAgg ((cs.drop o).take y.size)) else none
    | false => cs[o]?)
  | none => none

def aggCells : AV → Option (List AV)
  | .d (.agg cs) => some (cs.map .d)
  | .agg cs => some cs
  | _ => none

theorem aggCells_rep {x : AV} {v : Value} (hx : RepV R ι x v) {cs : List AV} (h : aggCells x = some cs) :
    ∃ vs : List Value, v = .agg vs.toArray ∧ cs.length = vs.length ∧ (∀ u ∈ vs, u.oneCell' = true) ∧ ∀ (i : Nat) (c : AV) (u : Value), cs[i]? = some c → vs[i]? = some u → RepV R ι c u := by
  unfold aggCells at h
  split at h
  · obtain rfl := Option.some.inj h
    cases rep_d hx with
    | agg ds vs hl h1 h =>
    refine ⟨vs, rfl, by simpa using hl, h1, fun i c u hc hu => ?_⟩
    rw [List.getElem?_map, Option.map_eq_some_iff] at hc
    obtain ⟨d, hd, rfl⟩ := hc
    exact .d _ _ (h i d u hd hu)
  · obtain rfl := Option.some.inj h
    cases hx with
    | agg _ vs hl h1 h => exact ⟨vs, rfl, hl, h1, h⟩
  · cases h

theorem part_run (hτ : TabOK P τ) {t : TypeId} {cs : List AV} {vs : List Value} {o : Nat} {x : AV} (hl : cs.length = vs.length) (h1 : ∀ u ∈ vs, u.oneCell' = true)
    (hr : ∀ (i : Nat) (c : AV) (u : Value), cs[i]? = some c → vs[i]? = some u → RepV R ι c u) (h : partAV τ t cs o = some x) :
    ∃ u, (part t vs.toArray o).run P w = .ok u w ∧ RepV R ι x u := by
  unfold partAV at h
  split at h
  · rename_i y hy
    obtain ⟨d, i, hu, hi, hs, _, _, _, hk, _⟩ := hτ.get hy
    split at h
    · rename_i hag
      split at h
      · rename_i hle
        obtain rfl := Option.some.inj h
        refine ⟨.agg ((vs.drop o).take y.size).toArray, ?_, mkAgg_rep (by simp; omega) (fun u hu => h1 u (List.mem_of_mem_drop (List.mem_of_mem_take hu))) fun i c u hc hu => ?_⟩
        · have he : vs.toArray.extract o (o + y.size) = ((vs.drop o).take y.size).toArray := by
            simp [List.take_drop]
          simp [part, Sem.run_bind, TK.isAgg_run hu hk, hag, sizeOf_run hi, hs, he]
        · rw [List.getElem?_take] at hc hu
          split at hc
          · rename_i hlt
            rw [if_pos hlt] at hu
            rw [List.getElem?_drop] at hc hu
            exact hr _ _ _ hc hu
          · cases hc
      · cases h
    · rename_i hag
      have hlt : o < vs.length := hl ▸ (List.getElem?_eq_some_iff.1 h).1
      refine ⟨vs[o], part_scalar hu hk hag (by simp), hr o x _ h (List.getElem?_eq_getElem hlt)⟩
  · cases h

def fieldAV (τ : Tab) (s : TypeId) (x : AV) (f : Nat) : Option AV :=
  match kindOf τ s with
  | .struct fs => (match fs[f]? with
    | some (o, ft) => (match aggCells x with
      | some cs => partAV τ ft cs o
      | none => none)
    | none => none)
  | _ => none

theorem field_run (hτ : TabOK P τ) {s : TypeId} {p x : AV} {f : Nat} {v : Value} (hp : RepV R ι p v) (h : fieldAV τ s p f = some x) :
    ∃ u, (Instr.field s v f).run P w = .ok u w ∧ RepV R ι x u := by
  unfold fieldAV at h
  split at h
  · rename_i fs hk
    split at h
    · rename_i o ft hf
      split at h
      · rename_i cs hcs
        obtain ⟨vs, rfl, hl, h1, hr⟩ := aggCells_rep hp hcs
        obtain ⟨d, i, y, _, _, hu, _, _, hk'⟩ := kindOf_run hτ hk (fun _ _ => trivial) (by simp)
        obtain ⟨fields, rfl, hfs⟩ := hk'
        obtain ⟨fd, hfd, ho, hft⟩ : ∃ fd, fields[f]? = some fd ∧ fd.offset = o ∧ fd.type = ft := by
          rw [← hfs, List.getElem?_map, Option.map_eq_some_iff] at hf
          obtain ⟨fd, h1, h2⟩ := hf
          simp only [Prod.mk.injEq] at h2
          exact ⟨fd, by simpa using h1, h2.1, h2.2⟩
        obtain ⟨u, hu1, hu2⟩ := part_run (P := P) (w := w) hτ hl h1 hr h
        refine ⟨u, ?_, hu2⟩
        simp [Instr.field, run_underlying hu, hfd, asAgg, hft, ho, hu1]
      · cases h
    · cases h
  · cases h

/-! ### Elements -/

def indexAddrAV (A : Ar) (τ : Tab) (t : TypeId) (x ix : AV) : Option AV :=
  match ix with
  | .d (.s (.int _ n)) => (match kindOf τ t with
    | .slice e => (match x with
      | .d (.view k es) => if k = sizeAt τ e then (match A.getD es n with
        | some d => some (.d (.vref d.cells))
        | none => none) else none
      | .own m i len k c => if k = sizeAt τ e then (match A.inB n len with
        | some j => some (.ptr m (A.addN i j) 0 k)
        | none => none) else none
      | _ => none)
    | .array cnt e => (match A.inB n cnt with
      | some j => (match x with
        | .ptr m i off k => some (.ptr m i (off + j * sizeAt τ e) k)
        | .d (.vref cs) => some (.d (.vref (cs.drop (j * sizeAt τ e))))
        | _ => none)
      | none => none)
    | _ => none)
  | _ => none

theorem inB_some {n : Int} {len j : Nat} (h : Ar.real.inB n len = some j) : 0 ≤ n ∧ n < (len : Int) ∧ n.toNat = j ∧ j < len := by
  simp only [Ar.real] at h
  split at h
  · rename_i hc
    obtain rfl := Option.some.inj h
    exact ⟨hc.1, hc.2, rfl, by omega⟩
  · cases h

theorem getI_some {α : Type} {l : List α} {n : Int} {x : α} (h : getI l n = some x) : 0 ≤ n ∧ n < (l.length : Int) ∧ l[n.toNat]? = some x := by
  unfold getI at h
  split at h
  · rename_i h0
    have := (List.getElem?_eq_some_iff.1 h).1
    exact ⟨h0, by omega, h⟩
  · cases h

theorem indexAddr_run (hτ : TabOK P τ) {t : TypeId} {x ix z : AV} {v iv : Value} (hx : RepV R ι x v) (hi : RepV R ι ix iv) (hnz : ∀ e, kindOf τ t = .slice e ∨ (∃ c, kindOf τ t = .array c e) → sizeAt τ e ≠ 0)
    (h : indexAddrAV Ar.real τ t x ix = some z) : ∃ u, (Instr.indexAt t v iv).run P w = .ok u w ∧ RepV R ι z u := by
  unfold indexAddrAV at h
  split at h
  · rename_i ki n
    obtain rfl := rep_s hi
    split at h
    · rename_i e hk
      obtain ⟨d, ti, y, _, _, hu, _, _, hk'⟩ := kindOf_run hτ hk (fun _ _ => trivial) (by simp)
      simp only [TK.ok] at hk'
      subst hk'
      obtain ⟨i', y', hy', hi', hs'⟩ := sizeAt_run hτ (hnz e (.inl hk))
      split at h
      · rename_i k es
        split at h
        · rename_i hdl
          split at h
          · rename_i d hd
            obtain rfl := Option.some.inj h
            obtain ⟨h0, h2, h3⟩ := getI_some (show getI es n = some d from hd)
            cases rep_d hx with
            | nil => simp at h3
            | view _ _ ad cap f hc hmx0 hsp hkk hr hrep =>
            have hkd := hkk _ _ h3
            have hsp' := hsp (by intro e0; subst e0; simp at h3)
            obtain ⟨ab, ao, asp⟩ := ad
            simp only at hsp'
            subst hsp'
            have hks : k = i'.size := by omega
            refine ⟨.pointer (some ⟨ab, ao + n.toNat * k, none⟩), ?_, .d _ _ (.vref _ _ _ (f n.toNat) (fun j c hc => hr _ _ _ _ h3 hc) (fun j c hc => hrep _ _ _ _ h3 hc))⟩
            have hlt : n < (es.length : Int) := h2
            simp [Instr.indexAt, Sc.val, asIntOf, run_underlying hu, h0, hlt, sizeOf_run hi', Addr.add_lit, hks]
          · cases h
        · cases h
      · rename_i m i len k c
        split at h
        · rename_i hks
          split at h
          · rename_i j hj
            obtain rfl := Option.some.inj h
            obtain ⟨h0, h1, h2, h3⟩ := inB_some hj
            cases hx with
            | own _ _ _ _ b cap mm lb _ hi2 hl hm hc =>
            refine ⟨.pointer (some ⟨b, (i + j) * k + 0, none⟩), ?_, .ptr _ _ _ _ _ _ _ hi2⟩
            have hke : k = i'.size := by omega
            simp [Instr.indexAt, Sc.val, asIntOf, run_underlying hu, h0, h1, sizeOf_run hi', Addr.add_lit, ← hke, h2, Nat.add_mul]
          · cases h
        · cases h
      · cases h
    · rename_i cnt e hk
      obtain ⟨d, ti, y, _, _, hu, _, _, hk'⟩ := kindOf_run hτ hk (fun _ _ => trivial) (by simp)
      simp only [TK.ok] at hk'
      subst hk'
      obtain ⟨i', y', hy', hi', hs'⟩ := sizeAt_run hτ (hnz e (.inr ⟨cnt, hk⟩))
      split at h
      · rename_i j hj
        obtain ⟨h0, h1, h2, h3⟩ := inB_some hj
        split at h
        · rename_i m i off k
          obtain rfl := Option.some.inj h
          cases hx with
          | ptr _ _ _ _ b c lb hi2 =>
          refine ⟨.pointer (some ⟨b, i * k + (off + j * sizeAt τ e), none⟩), ?_, .ptr _ _ _ _ _ _ _ hi2⟩
          simp [Instr.indexAt, Sc.val, asIntOf, run_underlying hu, Instr.sureAddr, h0, h1, sizeOf_run hi', Addr.add_lit, hs', h2, Nat.add_assoc]
        · rename_i cs
          obtain rfl := Option.some.inj h
          have hx' := rep_d hx
          obtain ⟨b, o', rfl⟩ : ∃ b o', v = .pointer (some ⟨b, o', none⟩) := by cases hx'; exact ⟨_, _, rfl⟩
          refine ⟨.pointer (some ⟨b, o' + j * sizeAt τ e, none⟩), ?_, .d _ _ (vref_drop hx')⟩
          simp [Instr.indexAt, Sc.val, asIntOf, run_underlying hu, Instr.sureAddr, h0, h1, sizeOf_run hi', Addr.add_lit, hs', h2]
        · cases h
      · cases h
    · cases h
  · cases h

def indexAV (A : Ar) (τ : Tab) (t : TypeId) (x ix : AV) : Option AV :=
  match ix with
  | .d (.s (.int _ n)) => (match kindOf τ t with
    | .string => (match x with
      | .d (.s (.str l)) => (match A.getS l n with
        | some b => some (.d (.s (.int .u8 b)))
        | none => none)
      | _ => none)
    | .array cnt e => (match A.inB n cnt with
      | some j => (match sizeAt τ e, aggCells x with
        | 0, _ => none
        | k, some cs => partAV τ e cs (j * k)
        | _, none => none)
      | none => none)
    | _ => none)
  | _ => none

theorem getS_some {l : List UInt8} {n b : Int} (h : Ar.real.getS l n = some b) : ∃ c, 0 ≤ n ∧ n < (l.length : Int) ∧ l[n.toNat]? = some c ∧ b = (c.toNat : Int) := by
  simp only [Ar.real, Option.map_eq_some_iff] at h
  obtain ⟨c, h1, h2⟩ := h
  obtain ⟨h3, h4, h5⟩ := getI_some h1
  exact ⟨c, h3, h4, h5, h2.symm⟩

theorem index_run (hτ : TabOK P τ) {t : TypeId} {x ix z : AV} {v iv : Value} (hx : RepV R ι x v) (hi : RepV R ι ix iv)
    (h : indexAV Ar.real τ t x ix = some z) : ∃ u, (Instr.index t v iv).run P w = .ok u w ∧ RepV R ι z u := by
  unfold indexAV at h
  split at h
  · rename_i ki n
    obtain rfl := rep_s hi
    split at h
    · rename_i hk
      obtain ⟨d, ti, y, _, _, hu, _, _, hk'⟩ := kindOf_run hτ hk (fun _ _ => trivial) (by simp)
      simp only [TK.ok] at hk'
      subst hk'
      split at h
      · rename_i l
        obtain rfl := rep_s hx
        split at h
        · rename_i b hb
          obtain rfl := Option.some.inj h
          obtain ⟨c, h0, h1, h2, rfl⟩ := getS_some hb
          refine ⟨.int .u8 c.toNat, ?_, .d _ _ (.s (.int .u8 _) (ok_byte c))⟩
          have hg : (ByteArray.mk l.toArray)[Int.toNat n]? = some c := by
            have hlt : n.toNat < l.length := by omega
            rw [List.getElem?_eq_getElem hlt] at h2
            have hsz : n.toNat < (ByteArray.mk l.toArray).size := by rw [str_size]; exact hlt
            rw [getElem?_pos (ByteArray.mk l.toArray) n.toNat hsz]
            exact h2
          simp [Instr.index, Sc.val, asIntOf, run_underlying hu, h0, hg]
        · cases h
      · cases h
    · rename_i cnt e hk
      obtain ⟨d, ti, y, _, _, hu, _, _, hk'⟩ := kindOf_run hτ hk (fun _ _ => trivial) (by simp)
      simp only [TK.ok] at hk'
      subst hk'
      split at h
      · rename_i j hj
        obtain ⟨h0, h1, h2, h3⟩ := inB_some hj
        split at h
        · cases h
        · rename_i cs hcs hne
          obtain ⟨vs, rfl, hl, hone, hr⟩ := aggCells_rep hx hcs
          obtain ⟨i', y', hy', hi', hs'⟩ := sizeAt_run hτ (t := e) (fun e0 => hne e0)
          obtain ⟨u, hu1, hu2⟩ := part_run (P := P) (w := w) hτ hl hone hr h
          refine ⟨u, ?_, hu2⟩
          simp [Instr.index, Sc.val, asIntOf, run_underlying hu, h0, h1, sizeOf_run hi', hs', h2, hu1]
        · cases h
      · cases h
    · cases h
  · cases h

end
end Go.Ua

/- Slices, conversions, structs built, and all operations that leave the world as it is, put together. A library of this claim's own: no statement stands in it. -/
namespace Go.Ua
open Go
set_option linter.unusedVariables false
set_option linter.unusedSimpArgs false

section
variable {X L : Nat → Prop} {w0 : W0} {w : World} {nt : Nat} {ι : Io} {S : St} {a : Act} {P : Program} {τ : Tab} {R : Rd}

/-! ### Slice expressions -/

/-- A bound: given, or the one that holds where none is. -/
def bnd (x : Option AV) (d : Int) : Option Int := match x with
  | none => some d
  | some (.d (.s (.int _ n))) => some n
  | _ => none

def sliceAV (A : Ar) (τ : Tab) (t : TypeId) (x : AV) (lo hi mx : Option AV) : Option AV :=
  match kindOf τ t, mx with
  | .string, none => (match x with
    | .d (.s (.str l)) => (match bnd lo 0, bnd hi (A.lenS l) with
      | some i, some j => (match A.cutS l i j with
        | some r => some (.d (.s (.str r)))
        | none => none)
      | _, _ => none)
    | _ => none)
  | .slice e, none => (match x with
    | .d (.view k es) => (match sizeAt τ e with
      | 0 => none
      | s + 1 => if k = s + 1 then (match bnd lo 0, bnd hi (A.lenD es) with
        | some i, some j => (match A.cutD es i j with
          | some r => some (.d (.view k r))
          | none => none)
        | _, _ => none) else none)
    | .own n b len k c => (match sizeAt τ e with
      | 0 => none
      | s + 1 => if k = s + 1 then (match bnd lo 0, bnd hi (A.natI len) with
        | some i, some j => (match A.cutN len i j, c with
          | some (some (i, j)), none => some (.own n (A.addN b i) (A.subN j i) k none)
          | some none, none => some (.d (.view k []))
          | _, _ => none)
        | _, _ => none) else none)
    | _ => none)
  | .slice e, some (.d (.s (.int _ 0))) => (match sizeAt τ e, lo, hi, x with
    | 0, _, _, _ => none
    | _, none, some (.d (.s (.int _ 0))), .d (.view _ _) => some .nul
    | _, none, some (.d (.s (.int _ 0))), .own _ _ _ _ _ => some .nul
    | _, _, _, _ => none)
  | _, _ => none

theorem bnd_rep {x : Option AV} {v : Option Value} {d n : Int} (hx : ∀ y, x = some y → ∃ u, v = some u ∧ RepV R ι y u) (hv : x = none → v = none) (h : bnd x d = some n) :
    (v = none ∧ x = none ∧ n = d) ∨ ∃ k, v = some (.int k n) := by
  unfold bnd at h
  split at h
  · obtain rfl := Option.some.inj h; exact .inl ⟨hv rfl, rfl, rfl⟩
  · rename_i k m
    obtain rfl := Option.some.inj h
    obtain ⟨u, hu, hr⟩ := hx _ rfl
    obtain rfl := rep_s hr
    exact .inr ⟨k, hu⟩
  · cases h

theorem bounds_run {isS : Bool} {len cap : Nat} {lo hi : Option Value} {i j : Int} (hlo : (lo = none ∧ i = 0) ∨ ∃ k, lo = some (.int k i)) (hhi : (hi = none ∧ j = len) ∨ ∃ k, hi = some (.int k j))
    (h0 : 0 ≤ i) (hij : i ≤ j) (hjc : j ≤ (cap : Int)) (hl : len ≤ cap) :
    (Instr.sliceBounds isS len cap lo hi none).run P w = .ok (i.toNat, j.toNat, cap) w := by
  have h1 : 0 ≤ j := by omega
  have hb : ∀ (k : IntKind) (n : Int) (y : Nat) (c : BoundsCode), 0 ≤ n → n ≤ (y : Int) → (Instr.sliceBound (.int k n) y c).run P w = .ok n.toNat w := by
    intro k n y c h2 h3
    simp [Instr.sliceBound, asIntOf, h2, h3]
  have hij' : i ≤ (j.toNat : Int) := by omega
  unfold Instr.sliceBounds
  rcases hlo with ⟨rfl, rfl⟩ | ⟨k, rfl⟩ <;> rcases hhi with ⟨rfl, rfl⟩ | ⟨k', rfl⟩
  · simp
  · simp [hb _ j cap _ h1 hjc]
  · simp only [Sem.run_bind, Sem.run_pure, Result.andThen_ok]
    have := hb k i len .sliceB h0 (by omega)
    simp [this]
  · simp only [Sem.run_bind, Sem.run_pure, Result.andThen_ok]
    have := hb k i j.toNat .sliceB h0 hij'
    simp [hb _ j cap _ h1 hjc, this]

theorem slice_run (hτ : TabOK P τ) {t : TypeId} {x z : AV} {v : Value} {lo hi mx : Option AV} {vlo vhi vmx : Option Value} (hx : RepV R ι x v)
    (hlo : ∀ y, lo = some y → ∃ u, vlo = some u ∧ RepV R ι y u) (hlo' : lo = none → vlo = none)
    (hhi : ∀ y, hi = some y → ∃ u, vhi = some u ∧ RepV R ι y u) (hhi' : hi = none → vhi = none)
    (hmx : ∀ y, mx = some y → ∃ u, vmx = some u ∧ RepV R ι y u) (hmx' : mx = none → vmx = none)
    (h : sliceAV Ar.real τ t x lo hi mx = some z) : ∃ u, (Instr.sliceAt t v vlo vhi vmx).run P w = .ok u w ∧ RepV R ι z u := by
  unfold sliceAV at h
  split at h
  · rename_i hk
    obtain ⟨d, ti, y, _, _, hu, _, _, hk'⟩ := kindOf_run hτ hk (fun _ _ => trivial) (by simp)
    simp only [TK.ok] at hk'
    subst hk'
    obtain rfl := hmx' rfl
    split at h
    · rename_i l
      obtain rfl := rep_s hx
      split at h
      · rename_i i j hi1 hj1
        split at h
        · rename_i r hr
          obtain rfl := Option.some.inj h
          simp only [Ar.real, cutI] at hr
          split at hr
          · rename_i hc
            obtain rfl := Option.some.inj hr
            refine ⟨.string ⟨((l.take j.toNat).drop i.toNat).toArray⟩, ?_, .d _ _ (.s (.str _) (by have := rep_ok hx; simp only [Sc.ok, List.length_drop, List.length_take] at this ⊢; omega))⟩
            have hb := bounds_run (P := P) (w := w) (isS := false) (len := l.length) (cap := l.length) (lo := vlo) (hi := vhi) (i := i) (j := j)
              (by rcases bnd_rep hlo hlo' hi1 with ⟨h1, _, h2⟩ | h1; exact .inl ⟨h1, h2⟩; exact .inr h1)
              (by rcases bnd_rep hhi hhi' hj1 with ⟨h1, _, h2⟩ | h1; exact .inl ⟨h1, h2⟩; exact .inr h1) hc.1 hc.2.1 hc.2.2 (Nat.le_refl _)
            have he : (ByteArray.mk l.toArray).extract i.toNat j.toNat = ⟨((l.take j.toNat).drop i.toNat).toArray⟩ := by
              apply ByteArray.ext
              simp [List.drop_take]
            simp only [Instr.sliceAt, Sem.run_bind, run_underlying hu, Result.andThen_ok, Instr.slice, Sc.val, Option.isSome_none, Bool.false_eq_true, if_false, str_size, hb, he, Sem.run_pure]
          · cases hr
        · cases h
      · cases h
    · cases h
  · rename_i e hk
    obtain ⟨d, ti, y, _, _, hu, _, _, hk'⟩ := kindOf_run hτ hk (fun _ _ => trivial) (by simp)
    simp only [TK.ok] at hk'
    subst hk'
    obtain rfl := hmx' rfl
    split at h
    · rename_i k es
      split at h
      · cases h
      · rename_i k' hks
        split at h
        · rename_i hkk'
          obtain ⟨i', y', hy', hi', hs'⟩ := sizeAt_run hτ (t := e) (by omega)
          have hke : k = i'.size := by omega
          split at h
          · rename_i i j hi1 hj1
            split at h
            · rename_i r hr
              obtain rfl := Option.some.inj h
              simp only [Ar.real, cutI] at hr
              split at hr
              · rename_i hc
                obtain rfl := Option.some.inj hr
                have hlo2 : (vlo = none ∧ i = 0) ∨ ∃ k, vlo = some (.int k i) := by rcases bnd_rep hlo hlo' hi1 with ⟨h1, _, h2⟩ | h1; exact .inl ⟨h1, h2⟩; exact .inr h1
                have hhi2 : (vhi = none ∧ j = (es.length : Int)) ∨ ∃ k, vhi = some (.int k j) := by rcases bnd_rep hhi hhi' hj1 with ⟨h1, _, h2⟩ | h1; exact .inl ⟨h1, h2⟩; exact .inr h1
                have hlen : ((es.take j.toNat).drop i.toNat).length = j.toNat - i.toNat := by simp; omega
                cases rep_d hx with
                | nil =>
                  have hb := bounds_run (P := P) (w := w) (isS := true) (len := 0) (cap := 0) hlo2 hhi2 hc.1 hc.2.1 hc.2.2 (Nat.le_refl _)
                  have hj0 : j.toNat = 0 := by have := hc.2.2; simp at this; omega
                  have hi0 : i.toNat = 0 := by omega
                  refine ⟨.slice none 0 0, ?_, ?_⟩
                  · simp [Instr.sliceAt, Sem.run_bind, run_underlying hu, Instr.slice, hb, sizeOf_run hi', hj0, hi0]
                  · have : ((([] : List Dat).take j.toNat).drop i.toNat) = [] := by simp
                    rw [this]
                    exact .d _ _ (.nil _)
                | view _ _ ad cap f hcap hmx0 hsp hkk hr hrep =>
                  have hb := bounds_run (P := P) (w := w) (isS := true) (len := es.length) (cap := cap) hlo2 hhi2 hc.1 hc.2.1 (by omega) hcap
                  refine ⟨.slice (some (if cap = i.toNat then ad else ad.add (i.toNat * i'.size))) (j.toNat - i.toNat) (cap - i.toNat), ?_, ?_⟩
                  · simp only [Instr.sliceAt, Sem.run_bind, run_underlying hu, Result.andThen_ok, Instr.slice, hb, sizeOf_run hi', Sem.run_pure, Option.map_some]
                    split <;> rfl
                  · have hsub : ∀ n e, ((es.take j.toNat).drop i.toNat)[n]? = some e → n < j.toNat - i.toNat ∧ es[i.toNat + n]? = some e := by
                      intro n e hn
                      have h1 := (List.getElem?_eq_some_iff.1 hn).1
                      rw [hlen] at h1
                      rw [List.getElem?_drop, List.getElem?_take, if_pos (by omega)] at hn
                      exact ⟨h1, hn⟩
                    by_cases he : (es.take j.toNat).drop i.toNat = []
                    · have h0 : j.toNat - i.toNat = 0 := by rw [← hlen, he]; rfl
                      rw [he, h0]
                      exact .d _ _ (.view k [] _ _ (fun _ _ => undef) (Nat.zero_le _) (by omega) (fun h => absurd rfl h) (by simp) (by simp) (by simp))
                    · have hlt : i.toNat < j.toNat := by
                        have := List.length_pos_iff.2 he
                        omega
                      have hjl : j.toNat ≤ es.length := by omega
                      have hne : ¬ cap = i.toNat := by omega
                      rw [if_neg hne]
                      have hes : es ≠ [] := by intro e0; subst e0; simp at hjl; omega
                      have hspn := hsp hes
                      obtain ⟨ab, ao, asp⟩ := ad
                      simp only at hspn
                      subst hspn
                      rw [Addr.add_lit]
                      refine .d _ _ ?_
                      rw [show j.toNat - i.toNat = ((es.take j.toNat).drop i.toNat).length from hlen.symm]
                      refine .view k _ _ _ (fun n m => f (i.toNat + n) m) (by rw [hlen]; omega) (by omega) (fun _ => rfl) (fun n e hn => hkk _ _ (hsub n e hn).2) (fun n e m c hn hc' => ?_) (fun n e m c hn hc' => hrep _ _ _ _ (hsub n e hn).2 hc')
                      have := hr _ _ _ _ (hsub n e hn).2 hc'
                      simp only at this ⊢
                      rw [show ao + i.toNat * i'.size + n * k + m = ao + (i.toNat + n) * k + m by rw [← hke, Nat.add_mul]; omega]
                      exact this
              · cases hr
            · cases h
          · cases h
        · cases h
    · rename_i m b len k c
      split at h
      · cases h
      · rename_i s hks
        split at h
        · rename_i hkk'
          obtain ⟨i', y', hy', hi', hs'⟩ := sizeAt_run hτ (t := e) (by omega)
          have hke : k = i'.size := by omega
          split at h
          · rename_i i j hi1 hj1
            have hlo2 : (vlo = none ∧ i = 0) ∨ ∃ k, vlo = some (.int k i) := by rcases bnd_rep hlo hlo' hi1 with ⟨h1, _, h2⟩ | h1; exact .inl ⟨h1, h2⟩; exact .inr h1
            have hhi2 : (vhi = none ∧ j = (len : Int)) ∨ ∃ k, vhi = some (.int k j) := by rcases bnd_rep hhi hhi' hj1 with ⟨h1, _, h2⟩ | h1; exact .inl ⟨h1, h2⟩; exact .inr h1
            cases hx with
            | own _ _ _ _ bb cap mm lb _ hi2 hl hm hx0 hc =>
            split at h
            · rename_i i1 j1 hcut
              obtain rfl := Option.some.inj h
              simp only [Ar.real] at hcut
              split at hcut
              · rename_i hcc
                split at hcut
                · cases hcut
                · rename_i hnn
                  simp only [Option.some.injEq, Prod.mk.injEq] at hcut
                  obtain ⟨rfl, rfl⟩ := hcut
                  have hb := bounds_run (P := P) (w := w) (isS := true) (len := len) (cap := mm) hlo2 hhi2 hcc.1 hcc.2.1 (by omega) hl
                  have hmc : b + mm = cap := by
                    rcases hc with ⟨_, h1⟩ | h1
                    · exact h1
                    · cases h1
                  refine ⟨.slice (some (if mm = i.toNat then ⟨bb, b * k, none⟩ else (⟨bb, b * k, none⟩ : Addr).add (i.toNat * i'.size))) (j.toNat - i.toNat) (mm - i.toNat), ?_, ?_⟩
                  · simp only [Instr.sliceAt, Sem.run_bind, run_underlying hu, Result.andThen_ok, Instr.slice, hb, sizeOf_run hi', Sem.run_pure, Option.map_some]
                    split <;> rfl
                  · have hadd : (if mm = i.toNat then (⟨bb, b * k, none⟩ : Addr) else (⟨bb, b * k, none⟩ : Addr).add (i.toNat * i'.size)) = ⟨bb, (b + i.toNat) * k, none⟩ := by
                      split
                      · have : i.toNat = 0 := by omega
                        rw [this, Nat.add_zero]
                      · rw [Addr.add_lit, ← hke, Nat.add_mul]
                    rw [hadd]
                    exact .own _ _ _ _ _ _ _ _ _ hi2 (by show j.toNat - i.toNat ≤ _; omega) (by show b + i.toNat + _ ≤ _; omega) hx0 (.inl ⟨rfl, by show b + i.toNat + _ = _; omega⟩)
              · cases hcut
            · rename_i hcut
              obtain rfl := Option.some.inj h
              simp only [Ar.real] at hcut
              split at hcut
              · rename_i hcc
                split at hcut
                · rename_i hnn
                  have hb := bounds_run (P := P) (w := w) (isS := true) (len := len) (cap := mm) hlo2 hhi2 hcc.1 hcc.2.1 (by omega) hl
                  have h0 : j.toNat - i.toNat = 0 := by omega
                  refine ⟨.slice (some (if mm = i.toNat then ⟨bb, b * k, none⟩ else (⟨bb, b * k, none⟩ : Addr).add (i.toNat * i'.size))) (j.toNat - i.toNat) (mm - i.toNat), ?_, ?_⟩
                  · simp only [Instr.sliceAt, Sem.run_bind, run_underlying hu, Result.andThen_ok, Instr.slice, hb, sizeOf_run hi', Sem.run_pure, Option.map_some]
                    split <;> rfl
                  · rw [h0]
                    exact .d _ _ (.view k [] _ _ (fun _ _ => undef) (Nat.zero_le _) (by omega) (fun h => absurd rfl h) (by simp) (by simp) (by simp))
                · cases hcut
              · cases hcut
            · cases h
          · cases h
        · cases h
    · cases h
  · rename_i e kk hk
    obtain ⟨d, ti, y, _, _, hu, _, _, hk'⟩ := kindOf_run hτ hk (fun _ _ => trivial) (by simp)
    simp only [TK.ok] at hk'
    subst hk'
    obtain ⟨u, rfl, hu0⟩ := hmx _ rfl
    obtain rfl := rep_s hu0
    have key : ∀ (ki : IntKind) (ad : Option Addr) (len cap : Nat), v = .slice ad len cap → vlo = none → vhi = some (.int ki 0) → sizeAt τ e ≠ 0 →
        ∃ u, (Instr.sliceAt t v vlo vhi (some (Sc.int kk 0).val)).run P w = .ok u w ∧ RepV R ι .nul u := by
      intro ki ad len cap h1 h2 h3 h4
      obtain ⟨i', y', hy', hi', hs'⟩ := sizeAt_run hτ h4
      subst h1; subst h2; subst h3
      refine ⟨.slice ad 0 0, ?_, .nul ad⟩
      simp [Instr.sliceAt, Sem.run_bind, run_underlying hu, Instr.slice, Instr.sliceBounds, Instr.sliceBound, asIntOf, Sc.val, sizeOf_run hi']
    split at h
    · cases h
    · rename_i ki _ _ hnz
      obtain rfl := Option.some.inj h
      obtain ⟨u, hu2, hr2⟩ := hhi _ rfl
      obtain rfl := rep_s hr2
      have hx' := rep_d hx
      obtain ⟨ad, len, cap, rfl⟩ : ∃ ad len cap, v = .slice ad len cap := by cases hx' <;> exact ⟨_, _, _, rfl⟩
      exact key ki ad len cap rfl (hlo' rfl) hu2 (fun e0 => hnz e0)
    · rename_i ki _ _ _ _ _ hnz
      obtain rfl := Option.some.inj h
      obtain ⟨u, hu2, hr2⟩ := hhi _ rfl
      obtain rfl := rep_s hr2
      obtain ⟨ad, len, cap, rfl⟩ : ∃ ad len cap, v = .slice ad len cap := by cases hx; exact ⟨_, _, _, rfl⟩
      exact key ki ad len cap rfl (hlo' rfl) hu2 (fun e0 => hnz e0)
    · cases h
  · cases h

end
end Go.Ua

/- All operations that leave the world as it is, put together. A library of this claim's own: no statement stands in it. -/
namespace Go.Ua
open Go
set_option linter.unusedVariables false
set_option linter.unusedSimpArgs false

section
variable {X L : Nat → Prop} {w0 : W0} {w : World} {nt : Nat} {ι : Io} {S : St} {a : Act} {P : Program} {τ : Tab} {R : Rd}

def unAV (A : Ar) (op : UnOp) (x : AV) : Option AV :=
  match op, x with
  | .not, .d (.s (.bool b)) => some (.d (.s (.bool (A.not b))))
  | .neg, .d (.s (.int k n)) => some (.d (.s (.int k (A.wrap k (A.sub 0 n)))))
  | _, _ => none

theorem un_run {op : UnOp} {x z : AV} {v : Value} (hx : RepV R ι x v) (h : unAV Ar.real op x = some z) : ∃ u, (Op.unary op v).run P w = .ok u w ∧ RepV R ι z u := by
  unfold unAV at h
  split at h
  · rename_i b
    obtain rfl := Option.some.inj h
    obtain rfl := rep_s hx
    exact ⟨.bool (!b), rfl, .d _ _ (.s (.bool _) trivial)⟩
  · rename_i k n
    obtain rfl := Option.some.inj h
    obtain rfl := rep_s hx
    exact ⟨.int k (k.wrap (0 - n)), rfl, .d _ _ (.s (.int k _) (ok_wrap _ _))⟩
  · cases h

def convAV (A : Ar) (τ : Tab) (s d : TypeId) (x : AV) : Option AV :=
  match x with
  | .d (.s (.int k n)) => (match kindOf τ s, kindOf τ d with
    | .int _, .int k' => some (.d (.s (.int k' (A.wrap k' n))))
    | _, _ => none)
  | .d (.s (.str l)) => (match kindOf τ s, kindOf τ d with
    | .string, .string => some x
    | _, _ => none)
  | _ => none

theorem conv_run (hτ : TabOK P τ) {s d : TypeId} {x z : AV} {v : Value} (hx : RepV R ι x v) (h : convAV Ar.real τ s d x = some z) :
    ∃ u, (convert s d v).run P w = .ok u w ∧ RepV R ι z u := by
  unfold convAV at h
  split at h
  · rename_i k n
    obtain rfl := rep_s hx
    split at h
    · rename_i k0 k' h1 h2
      obtain rfl := Option.some.inj h
      obtain ⟨d1, i1, y1, _, _, hu1, _, _, hk1⟩ := kindOf_run hτ h1 (fun _ _ => trivial) (by simp)
      obtain ⟨d2, i2, y2, _, _, hu2, _, _, hk2⟩ := kindOf_run hτ h2 (fun _ _ => trivial) (by simp)
      simp only [TK.ok] at hk1 hk2
      subst hk1; subst hk2
      refine ⟨.int k' (k'.wrap n), ?_, .d _ _ (.s (.int k' _) (ok_wrap _ _))⟩
      simp [convert, run_underlying hu1, run_underlying hu2, Sc.val, Conv.intToInt]
    · cases h
  · rename_i l
    obtain rfl := rep_s hx
    split at h
    · rename_i h1 h2
      obtain rfl := Option.some.inj h
      obtain ⟨d1, i1, y1, _, _, hu1, _, _, hk1⟩ := kindOf_run hτ h1 (fun _ _ => trivial) (by simp)
      obtain ⟨d2, i2, y2, _, _, hu2, _, _, hk2⟩ := kindOf_run hτ h2 (fun _ _ => trivial) (by simp)
      simp only [TK.ok] at hk1 hk2
      subst hk1; subst hk2
      refine ⟨.string ⟨l.toArray⟩, ?_, .d _ _ (.s (.str l) (rep_ok hx))⟩
      simp [convert, run_underlying hu1, run_underlying hu2, Sc.val]
    · cases h
  · cases h

def ifaceAV (τ : Tab) (t : TypeId) (x : AV) : Option AV :=
  match kindOf τ t with
  | .iface => none
  | .other => none
  | _ => (match x with
    | .d d => some (.d (.iface t d))
    | .any => none
    | x => some (.iface t x))

theorem iface_run (hτ : TabOK P τ) {t : TypeId} {x z : AV} {v : Value} (hx : RepV R ι x v) (h : ifaceAV τ t x = some z) :
    ∃ u, (Instr.makeInterface t v).run P w = .ok u w ∧ RepV R ι z u := by
  unfold ifaceAV at h
  split at h
  · cases h
  · cases h
  · rename_i hn1 hn2
    obtain ⟨d, i, y, _, _, hu, _, _, hk⟩ := kindOf_run (k := kindOf τ t) hτ rfl (fun _ _ => trivial) hn2
    have hni : ∀ ms, d ≠ .interface ms := by
      intro ms e
      subst e
      cases hkk : kindOf τ t <;> rw [hkk] at hk <;> simp [TK.ok] at hk
      exact hn1 hkk
    refine ⟨.iface t v, ?_, ?_⟩
    · unfold Instr.makeInterface
      rw [Sem.run_bind, run_underlying hu]
      simp only [Result.andThen_ok]
      first
        | rfl
        | (split
           · rename_i ms; exact absurd rfl (hni ms)
           · simp)
    · split at h
      · obtain rfl := Option.some.inj h; exact .d _ _ (.iface _ _ _ (rep_d hx))
      · cases h
      · obtain rfl := Option.some.inj h; exact .iface _ _ _ hx

def evls (S : St) : List Operand → List AV
  | [] => []
  | x :: r => evl S x :: evls S r

theorem evls_eq (S : St) (l : List Operand) : evls S l = l.map (evl S) := by
  induction l with
  | nil => rfl
  | cons x r ih => simp [evls, ih]

def fnAV (f : Fn) (cs ds : List AV) : AV := match f, cs, ds with
  | .func g, [], [] => .d (.s (.fn g))
  | f, cs, ds => .fn f cs ds

theorem fn_rep {f : Fn} {cs ds : List AV} {vs ws : List Value} (hl : cs.length = vs.length) (hl2 : ds.length = ws.length)
    (h : ∀ (i : Nat) (c : AV) (v : Value), cs[i]? = some c → vs[i]? = some v → RepV R ι c v)
    (h2 : ∀ (i : Nat) (c : AV) (v : Value), ds[i]? = some c → ws[i]? = some v → RepV R ι c v) : RepV R ι (fnAV f cs ds) (.func f vs.toArray ws.toArray) := by
  unfold fnAV
  split
  · have h1 : vs = [] := List.eq_nil_of_length_eq_zero (by simpa using hl.symm)
    have h2 : ws = [] := List.eq_nil_of_length_eq_zero (by simpa using hl2.symm)
    subst h1; subst h2
    exact .d _ _ (.s (.fn _) trivial)
  · exact .fn _ _ _ _ _ hl hl2 h h2

/-- Parts laid into cells. -/
def fillAV (place : Nat → Option (Nat × Nat)) (cells : List AV) : List (Nat × AV) → Option (List AV)
  | [] => some cells
  | (i, v) :: rest => match place i with
    | none => none
    | some (o, n) => (match v.st with
      | true => if v.cells.length = n ∧ o + n ≤ cells.length then fillAV place (cells.take o ++ (v.cells ++ cells.drop (o + n))) rest else none
      | false => none)

theorem setCells (vs : List Value) : ∀ (cs : List Value) (o : Nat), o + vs.length ≤ cs.length →
    vs.toArray.zipIdx.foldl (fun cs (p : Value × Nat) => cs.setIfInBounds (o + p.2) p.1) cs.toArray = (cs.take o ++ (vs ++ cs.drop (o + vs.length))).toArray := by
  have key : ∀ (vs : List Value) (cs : List Value) (o k : Nat), o + k + vs.length ≤ cs.length →
      (vs.zipIdx k).foldl (fun cs (p : Value × Nat) => cs.setIfInBounds (o + p.2) p.1) cs.toArray = (cs.take (o + k) ++ (vs ++ cs.drop (o + k + vs.length))).toArray := by
    intro vs
    induction vs with
    | nil => intro cs o k h; simp
    | cons v r ih =>
      intro cs o k h
      simp only [List.length_cons] at h
      have h1 : o + k < cs.length := by omega
      simp only [List.zipIdx_cons, List.foldl_cons, List.setIfInBounds_toArray]
      rw [ih _ _ _ (by simp; omega)]
      congr 1
      apply List.ext_getElem?
      intro n
      simp only [List.length_cons]
      rcases Nat.lt_trichotomy n (o + k) with h2 | h2 | h2
      · rw [List.getElem?_append_left (by simp; omega), List.getElem?_append_left (by simp; omega), List.getElem?_take, List.getElem?_take, if_pos (by omega), if_pos h2, List.getElem?_set, if_neg (by omega)]
      · subst h2
        rw [List.getElem?_append_left (by simp; omega), List.getElem?_append_right (by simp; omega), List.getElem?_take, if_pos (by omega), List.getElem?_set]
        simp [h1, Nat.min_eq_left (Nat.le_of_lt h1)]
      · have e1 : (List.take (o + (k + 1)) (cs.set (o + k) v)).length = o + k + 1 := by simp; omega
        have e2 : (List.take (o + k) cs).length = o + k := by simp; omega
        rw [List.getElem?_append_right (l₁ := List.take (o + (k + 1)) (cs.set (o + k) v)) (by rw [e1]; omega), List.getElem?_append_right (l₁ := List.take (o + k) cs) (by rw [e2]; omega)]
        rw [e1, e2, show n - (o + k) = (n - (o + k + 1)) + 1 by omega, List.cons_append, List.getElem?_cons_succ]
        rw [List.drop_set_of_lt (by omega)]
        rw [show o + (k + 1) + r.length = o + k + (r.length + 1) by omega]
  intro cs o h
  have := key vs cs o 0 (by simpa using h)
  rw [← Array.foldl_toList, Array.toList_zipIdx]
  simpa using this

theorem fill_run {place : Nat → Option (Nat × Nat)} : ∀ {parts : List (Nat × AV)} {vparts : List (Nat × Value)} {cells out : List AV} {vcells : List Value},
    parts.length = vparts.length → (∀ (j : Nat) p q, parts[j]? = some p → vparts[j]? = some q → p.1 = q.1 ∧ RepV R ι p.2 q.2) →
    cells.length = vcells.length → (∀ u ∈ vcells, u.oneCell' = true) → (∀ (i : Nat) (c : AV) (u : Value), cells[i]? = some c → vcells[i]? = some u → RepV R ι c u) →
    fillAV place cells parts = some out →
    ∃ vout : List Value, Instr.fill place vcells.toArray vparts = some vout.toArray ∧ out.length = vout.length ∧ (∀ u ∈ vout, u.oneCell' = true) ∧
      ∀ (i : Nat) (c : AV) (u : Value), out[i]? = some c → vout[i]? = some u → RepV R ι c u := by
  intro parts
  induction parts with
  | nil =>
    intro vparts cells out vcells hl hp hcl h1 hr h
    have : vparts = [] := List.eq_nil_of_length_eq_zero (by simpa using hl.symm)
    subst this
    simp only [fillAV, Option.some.injEq] at h
    subst h
    exact ⟨vcells, rfl, hcl, h1, hr⟩
  | cons p r ih =>
    intro vparts cells out vcells hl hp hcl h1 hr h
    cases vparts with
    | nil => simp at hl
    | cons q qr =>
      obtain ⟨i, v⟩ := p
      obtain ⟨i', u⟩ := q
      obtain ⟨hi, hv⟩ := hp 0 _ _ rfl rfl
      simp only at hi hv
      subst hi
      simp only [fillAV] at h
      split at h
      · cases h
      · rename_i o n hpl
        split at h
        · rename_i hst
          split at h
          · rename_i hc
            obtain ⟨vs, hvs, hvl, hv1, hvr⟩ := hv.cells hst
            have hoc : o + vs.length ≤ vcells.length := by omega
            obtain ⟨vout, ho1, ho2⟩ := ih (vparts := qr) (vcells := vcells.take o ++ (vs ++ vcells.drop (o + vs.length))) (by simpa using hl) (fun j p q h1 h2 => hp (j + 1) p q h1 h2)
              (by simp; omega) (fun u hu => by
                simp only [List.mem_append] at hu
                rcases hu with hu | hu | hu
                · exact h1 u (List.mem_of_mem_take hu)
                · exact hv1 u hu
                · exact h1 u (List.mem_of_mem_drop hu)) (fun m c u' hc' hu' => by
                rcases Nat.lt_or_ge m o with h2 | h2
                · rw [List.getElem?_append_left (by simp; omega), List.getElem?_take, if_pos h2] at hc' hu'
                  exact hr m c u' hc' hu'
                · have e1 : (List.take o cells).length = o := by simp; omega
                  have e2 : (List.take o vcells).length = o := by simp; omega
                  rw [List.getElem?_append_right (by omega), e1] at hc'
                  rw [List.getElem?_append_right (by omega), e2] at hu'
                  rcases Nat.lt_or_ge (m - o) n with h3 | h3
                  · rw [List.getElem?_append_left (by omega)] at hc' hu'
                    exact hvr _ _ _ hc' hu'
                  · rw [List.getElem?_append_right (by omega)] at hc' hu'
                    rw [List.getElem?_drop] at hc' hu'
                    rw [hc.1] at hc'
                    rw [← hvl, hc.1] at hu'
                    exact hr _ _ _ hc' hu') h
            refine ⟨vout, ?_, ho2⟩
            simp only [Instr.fill, hpl, hvs]
            have hsz : vs.toArray.size = n := by simp; omega
            have hcond : (decide (vs.toArray.size ≠ n) || decide (o + vs.toArray.size > vcells.toArray.size)) = false := by
              simp
              omega
            rw [hcond]
            simp only [Bool.false_eq_true, if_false]
            rw [setCells vs vcells o hoc]
            exact ho1
          · cases h
        · cases h

theorem zdat_cells (y : Ty) (h : y.k.isAgg = true ∨ y.zero.length = 1) : y.zdat.cells = y.zero.map .s := by
  unfold Ty.zdat
  split
  · rfl
  · rename_i hn
    rcases h with h | h
    · exact absurd h hn
    · match hz : y.zero, h with
      | [x], _ => rfl

theorem zval_cells (y : Ty) (h : y.k.isAgg = true ∨ y.zero.length = 1) : y.zval.cells = (y.zero.map Sc.val).toArray := by
  unfold Ty.zval
  split
  · rfl
  · rename_i hn
    rcases h with h | h
    · exact absurd h hn
    · match hz : y.zero, h with
      | [x], _ => simp [Sc.cells]

theorem zdat_rep (y : Ty) (h : y.k.isAgg = true ∨ y.zero.length = 1) (ho : ∀ x, x ∈ y.zero → x.ok) : RepD R y.zdat y.zval := by
  unfold Ty.zdat Ty.zval
  split
  · refine .agg _ _ (by simp) (fun v hv => ?_) (fun i c v hc hv => ?_)
    · simp only [List.mem_map] at hv
      obtain ⟨x, _, rfl⟩ := hv
      exact x.one
    · rw [List.getElem?_map, Option.map_eq_some_iff] at hc hv
      obtain ⟨x, hx, rfl⟩ := hc
      obtain ⟨x', hx', rfl⟩ := hv
      rw [hx] at hx'
      cases hx'
      exact .s x (ho x (List.mem_iff_getElem?.2 ⟨_, hx⟩))
  · rename_i hn
    rcases h with h | h
    · exact absurd h hn
    · match hz : y.zero, h with
      | [x], _ => exact .s x (ho x (by rw [hz]; simp))

def evps (S : St) : List (Nat × Operand) → List (Nat × AV)
  | [] => []
  | (i, x) :: r => (i, evl S x) :: evps S r

theorem evps_eq (S : St) (l : List (Nat × Operand)) : evps S l = l.map fun p => (p.1, evl S p.2) := by
  induction l with
  | nil => rfl
  | cons x r ih => simp [evps, ih]

def placesAV (τ : Tab) : List (Nat × TypeId) → Option (List (Nat × Nat))
  | [] => some []
  | (o, t) :: r => match look t τ, placesAV τ r with
    | some y, some l => some ((o, y.size) :: l)
    | _, _ => none

theorem places_run (hτ : TabOK P τ) {fs : List Field} {l : List (Nat × Nat)} (h : placesAV τ (fs.map fun f => (f.offset, f.type)) = some l) :
    (fs.mapM (fun f => do pure (f.offset, ← sizeOf f.type)) : Sem (List (Nat × Nat))).run P w = .ok l w := by
  induction fs generalizing l with
  | nil => simp [placesAV] at h; subst h; rfl
  | cons f r ih =>
    simp only [List.map_cons, placesAV] at h
    split at h
    · rename_i y l' hy hl'
      obtain rfl := Option.some.inj h
      obtain ⟨d, i, hu, hi, hs, _⟩ := hτ.get hy
      have ih' := ih hl'
      rw [List.mapM_cons]
      simp only [Sem.run_bind, Sem.run_pure, Result.andThen_ok, sizeOf_run hi, hs]
      rw [ih']
      rfl
    · cases h

def buildAV (τ : Tab) (t : TypeId) (parts : List (Nat × AV)) : Option AV :=
  match look t τ with
  | some y => (match y.k with
    | .struct fs => (match placesAV τ fs with
      | some pl => (match fillAV (pl[·]?) (y.zero.map fun x => .d (.s x)) parts with
        | some cells => some (mkAgg cells)
        | none => none)
      | none => none)
    | .array _ e => (match look e τ with
      | some ye => (match fillAV (fun i => some (i * ye.size, ye.size)) (y.zero.map fun x => .d (.s x)) parts with
        | some cells => some (mkAgg cells)
        | none => none)
      | none => none)
    | _ => none)
  | none => none

theorem build_run (hτ : TabOK P τ) {t : TypeId} {parts : List (Nat × AV)} {vparts : List (Nat × Value)} {z : AV} (hl : parts.length = vparts.length)
    (hp : ∀ (j : Nat) p q, parts[j]? = some p → vparts[j]? = some q → p.1 = q.1 ∧ RepV R ι p.2 q.2) (h : buildAV τ t parts = some z) :
    ∃ u, (Instr.build t vparts.toArray).run P w = .ok u w ∧ RepV R ι z u := by
  unfold buildAV at h
  split at h
  · rename_i y hy
    obtain ⟨d, i, hu, hi, hs, hb, hz, hzl, hk, hzo, _⟩ := hτ.get hy
    have hzr : ∀ (i : Nat) (c : AV) (u : Value), (y.zero.map fun x => AV.d (.s x))[i]? = some c → (y.zero.map Sc.val)[i]? = some u → RepV R ι c u := by
      intro i c u hc hv
      rw [List.getElem?_map, Option.map_eq_some_iff] at hc hv
      obtain ⟨x, hx, rfl⟩ := hc
      obtain ⟨x', hx', rfl⟩ := hv
      rw [hx] at hx'
      cases hx'
      exact .d _ _ (.s x (hzo x (List.mem_iff_getElem?.2 ⟨_, hx⟩)))
    have hz1 : ∀ u ∈ y.zero.map Sc.val, u.oneCell' = true := by
      intro u hu
      simp only [List.mem_map] at hu
      obtain ⟨x, _, rfl⟩ := hu
      exact x.one
    split at h
    · rename_i fs hks
      have hag : y.k.isAgg = true := by rw [hks]; rfl
      rw [hks] at hk
      obtain ⟨fields, rfl, hfs⟩ := hk
      split at h
      · rename_i pl hpl
        split at h
        · rename_i cells hcells
          obtain rfl := Option.some.inj h
          obtain ⟨vout, ho1, ho2, ho3, ho4⟩ := fill_run (R := R) (ι := ι) hl hp (by simp) hz1 hzr hcells
          refine ⟨.agg vout.toArray, ?_, mkAgg_rep ho2 ho3 ho4⟩
          rw [← hfs] at hpl
          have hpr := places_run (P := P) (w := w) hτ hpl
          have hpm : (fields.mapM fun f => do pure (f.offset, ← sizeOf f.type) : Sem (Array (Nat × Nat))).run P w = .ok pl.toArray w := by
            rw [Array.mapM_eq_mapM_toList, Sem.run_map, hpr]
            rfl
          simp only [Instr.build, Sem.run_bind, zeroValue, typeInfo, run_program, hi, Sem.run_pure, Result.andThen_ok, hz, run_underlying hu, hpm, zval_cells y (.inl hag)]
          have : (fun x : Nat => pl.toArray[x]?) = (fun x : Nat => pl[x]?) := by funext x; simp
          rw [this, ho1]
          simp
        · cases h
      · cases h
    · rename_i n e hks
      have hag : y.k.isAgg = true := by rw [hks]; rfl
      rw [hks] at hk
      simp only [TK.ok] at hk
      subst hk
      split at h
      · rename_i ye hye
        obtain ⟨de, ie, hue, hie, hse, _⟩ := hτ.get hye
        split at h
        · rename_i cells hcells
          obtain rfl := Option.some.inj h
          obtain ⟨vout, ho1, ho2, ho3, ho4⟩ := fill_run (R := R) (ι := ι) hl hp (by simp) hz1 hzr hcells
          refine ⟨.agg vout.toArray, ?_, mkAgg_rep ho2 ho3 ho4⟩
          simp only [Instr.build, Sem.run_bind, zeroValue, typeInfo, run_program, hi, Sem.run_pure, Result.andThen_ok, hz, run_underlying hu, zval_cells y (.inl hag), sizeOf_run hie, hse, ho1]
        · cases h
      · cases h
    · cases h
  · cases h

end
end Go.Ua
