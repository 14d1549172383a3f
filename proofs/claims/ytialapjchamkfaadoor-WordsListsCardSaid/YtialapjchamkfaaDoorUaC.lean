/- The operations on abstract values that leave the world as it is, continued: arithmetic, strings, fields, elements, slices. A library of this claim's own: no statement stands in it. -/
import Derived.Test.YtialapjchamkfaaDoorUaB
import Derived.Laws.Strings
import Derived.Laws.Strings2
import Derived.Laws.Slices
import Derived.Lib.Strings
namespace Go.Ua
open Go
set_option linter.unusedVariables false
set_option linter.unusedSimpArgs false

/-- The text that such bytes are. -/
def strOf : List Dat → Option (List UInt8)
  | [] => some []
  | .s (.int .u8 n) :: r => (match strOf r with
    | some l => if n = ((UInt8.ofNat n.toNat).toNat : Int) then some (UInt8.ofNat n.toNat :: l) else none
    | none => none)
  | _ :: _ => none


/-- What is reckoned with what is not known while code is evaluated. -/
structure Ar where
  wrap : IntKind → Int → Int
  add : Int → Int → Int
  sub : Int → Int → Int
  mul : Int → Int → Int
  tdiv : Int → Int → Int
  tmod : Int → Int → Int
  nz : Int → Bool
  eqI : Int → Int → Bool
  ltI : Int → Int → Bool
  leI : Int → Int → Bool
  bits : BinOp → IntKind → Int → Int → Int
  shl : IntKind → Int → Int → Option Int
  shr : IntKind → Int → Int → Option Int
  not : Bool → Bool
  eqB : Bool → Bool → Bool
  orB : Bool → Bool → Bool
  andB : Bool → Bool → Bool
  eqS : List UInt8 → List UInt8 → Bool
  ltS : List UInt8 → List UInt8 → Bool
  cat : List UInt8 → List UInt8 → Option (List UInt8)
  lenS : List UInt8 → Int
  getS : List UInt8 → Int → Option Int
  cutS : List UInt8 → Int → Int → Option (List UInt8)
  lenD : List Dat → Int
  getD : List Dat → Int → Option Dat
  nthD : List Dat → Nat → Option Dat
  cutD : List Dat → Int → Int → Option (List Dat)
  inB : Int → Nat → Option Nat
  inL : List Dat → Int → Option Nat
  cutL : List Dat → Int → Int → Option (Option (Nat × Nat))
  setD : List Dat → Nat → Dat → List Dat
  appD : List Dat → List Dat → List Dat
  subD : List Dat → Nat → Nat → List Dat
  repD : Int → Dat → Option (List Dat)
  bytesD : List UInt8 → List Dat
  strD : List Dat → Option (List UInt8)
  fits : Nat → List Dat → Bool
  natI : Nat → Int
  addN : Nat → Nat → Nat
  subN : Nat → Nat → Nat
  cutN : Nat → Int → Int → Option (Option (Nat × Nat))
  max : Int → Int → Int
  min : Int → Int → Int

def getI {α : Type} (l : List α) (n : Int) : Option α := if 0 ≤ n then l[n.toNat]? else none
def cutI {α : Type} (l : List α) (lo hi : Int) : Option (List α) := if 0 ≤ lo ∧ lo ≤ hi ∧ hi ≤ (l.length : Int) then some ((l.take hi.toNat).drop lo.toNat) else none

def Ar.real : Ar where
  wrap := IntKind.wrap
  add a b := a + b
  sub a b := a - b
  mul a b := a * b
  tdiv a b := a.tdiv b
  tmod a b := a.tmod b
  nz n := n != 0
  eqI a b := a == b
  ltI a b := decide (a < b)
  leI a b := decide (a ≤ b)
  bits op k a b := Go.bits op k a b
  shl k a b := if b < 0 then none else some (k.wrap (a * 2 ^ (Min.min b.toNat k.bits)))
  shr k a b := if b < 0 then none else some (a.fdiv (2 ^ (Min.min b.toNat k.bits)))
  not b := !b
  eqB a b := a == b
  orB a b := a || b
  andB a b := a && b
  eqS a b := a == b
  ltS a b := Op.bytesLess a b
  cat a b := if ((a.length + b.length : Nat) : Int) > IntKind.i64.max then none else some (a ++ b)
  lenS l := l.length
  getS l n := (getI l n).map fun b => (b.toNat : Int)
  cutS l lo hi := cutI l lo hi
  lenD l := l.length
  getD l n := getI l n
  nthD l n := l[n]?
  cutD l lo hi := cutI l lo hi
  inB i n := if 0 ≤ i ∧ i < (n : Int) then some i.toNat else none
  inL l i := if 0 ≤ i ∧ i < (l.length : Int) then some i.toNat else none
  cutL l lo hi := if 0 ≤ lo ∧ lo ≤ hi ∧ hi ≤ (l.length : Int) then (if lo = hi then some none else some (some (lo.toNat, hi.toNat - lo.toNat))) else none
  setD l i x := l.set i x
  appD a b := a ++ b
  subD l i n := (l.drop i).take n
  repD n x := if 0 ≤ n ∧ n ≤ 34359738368 then some (List.replicate n.toNat x) else none
  bytesD l := l.map fun c => .s (.int .u8 c.toNat)
  strD l := strOf l
  fits b l := decide (l.length * b ≤ 70368744177664)
  natI n := n
  addN a b := a + b
  subN a b := a - b
  cutN n lo hi := if 0 ≤ lo ∧ lo ≤ hi ∧ hi ≤ (n : Int) then (if lo.toNat = n ∧ n ≠ 0 then some none else some (some (lo.toNat, hi.toNat))) else none
  max a b := if b > a then b else a
  min a b := if b < a then b else a

/-- The same behind one letter: so an evaluation leaves 'F .add x y' as it is. -/
inductive K where
  | wrap
  | add
  | sub
  | mul
  | tdiv
  | tmod
  | nz
  | eqI
  | ltI
  | leI
  | bits
  | shl
  | shr
  | not
  | eqB
  | orB
  | andB
  | eqS
  | ltS
  | cat
  | lenS
  | getS
  | cutS
  | lenD
  | getD
  | nthD
  | cutD
  | inB
  | inL
  | cutL
  | setD
  | appD
  | subD
  | repD
  | bytesD
  | strD
  | fits
  | natI
  | addN
  | subN
  | cutN
  | max
  | min

@[reducible] def K.ty : K → Type
  | .wrap => IntKind → Int → Int
  | .add => Int → Int → Int
  | .sub => Int → Int → Int
  | .mul => Int → Int → Int
  | .tdiv => Int → Int → Int
  | .tmod => Int → Int → Int
  | .nz => Int → Bool
  | .eqI => Int → Int → Bool
  | .ltI => Int → Int → Bool
  | .leI => Int → Int → Bool
  | .bits => BinOp → IntKind → Int → Int → Int
  | .shl => IntKind → Int → Int → Option Int
  | .shr => IntKind → Int → Int → Option Int
  | .not => Bool → Bool
  | .eqB => Bool → Bool → Bool
  | .orB => Bool → Bool → Bool
  | .andB => Bool → Bool → Bool
  | .eqS => List UInt8 → List UInt8 → Bool
  | .ltS => List UInt8 → List UInt8 → Bool
  | .cat => List UInt8 → List UInt8 → Option (List UInt8)
  | .lenS => List UInt8 → Int
  | .getS => List UInt8 → Int → Option Int
  | .cutS => List UInt8 → Int → Int → Option (List UInt8)
  | .lenD => List Dat → Int
  | .getD => List Dat → Int → Option Dat
  | .nthD => List Dat → Nat → Option Dat
  | .cutD => List Dat → Int → Int → Option (List Dat)
  | .inB => Int → Nat → Option Nat
  | .inL => List Dat → Int → Option Nat
  | .cutL => List Dat → Int → Int → Option (Option (Nat × Nat))
  | .setD => List Dat → Nat → Dat → List Dat
  | .appD => List Dat → List Dat → List Dat
  | .subD => List Dat → Nat → Nat → List Dat
  | .repD => Int → Dat → Option (List Dat)
  | .bytesD => List UInt8 → List Dat
  | .strD => List Dat → Option (List UInt8)
  | .fits => Nat → List Dat → Bool
  | .natI => Nat → Int
  | .addN => Nat → Nat → Nat
  | .subN => Nat → Nat → Nat
  | .cutN => Nat → Int → Int → Option (Option (Nat × Nat))
  | .max => Int → Int → Int
  | .min => Int → Int → Int

abbrev Fam := (k : K) → k.ty

def Ar.of (F : Fam) : Ar where
  wrap := F .wrap
  add := F .add
  sub := F .sub
  mul := F .mul
  tdiv := F .tdiv
  tmod := F .tmod
  nz := F .nz
  eqI := F .eqI
  ltI := F .ltI
  leI := F .leI
  bits := F .bits
  shl := F .shl
  shr := F .shr
  not := F .not
  eqB := F .eqB
  orB := F .orB
  andB := F .andB
  eqS := F .eqS
  ltS := F .ltS
  cat := F .cat
  lenS := F .lenS
  getS := F .getS
  cutS := F .cutS
  lenD := F .lenD
  getD := F .getD
  nthD := F .nthD
  cutD := F .cutD
  inB := F .inB
  inL := F .inL
  cutL := F .cutL
  setD := F .setD
  appD := F .appD
  subD := F .subD
  repD := F .repD
  bytesD := F .bytesD
  strD := F .strD
  fits := F .fits
  natI := F .natI
  addN := F .addN
  subN := F .subN
  cutN := F .cutN
  max := F .max
  min := F .min

def Fam.real : Fam := fun k => match k with
  | .wrap => Ar.real.wrap
  | .add => Ar.real.add
  | .sub => Ar.real.sub
  | .mul => Ar.real.mul
  | .tdiv => Ar.real.tdiv
  | .tmod => Ar.real.tmod
  | .nz => Ar.real.nz
  | .eqI => Ar.real.eqI
  | .ltI => Ar.real.ltI
  | .leI => Ar.real.leI
  | .bits => Ar.real.bits
  | .shl => Ar.real.shl
  | .shr => Ar.real.shr
  | .not => Ar.real.not
  | .eqB => Ar.real.eqB
  | .orB => Ar.real.orB
  | .andB => Ar.real.andB
  | .eqS => Ar.real.eqS
  | .ltS => Ar.real.ltS
  | .cat => Ar.real.cat
  | .lenS => Ar.real.lenS
  | .getS => Ar.real.getS
  | .cutS => Ar.real.cutS
  | .lenD => Ar.real.lenD
  | .getD => Ar.real.getD
  | .nthD => Ar.real.nthD
  | .cutD => Ar.real.cutD
  | .inB => Ar.real.inB
  | .inL => Ar.real.inL
  | .cutL => Ar.real.cutL
  | .setD => Ar.real.setD
  | .appD => Ar.real.appD
  | .subD => Ar.real.subD
  | .repD => Ar.real.repD
  | .bytesD => Ar.real.bytesD
  | .strD => Ar.real.strD
  | .fits => Ar.real.fits
  | .natI => Ar.real.natI
  | .addN => Ar.real.addN
  | .subN => Ar.real.subN
  | .cutN => Ar.real.cutN
  | .max => Ar.real.max
  | .min => Ar.real.min

theorem Ar.of_real : Ar.of Fam.real = Ar.real := rfl
theorem real_ex : ∃ F : Fam, F = Fam.real := ⟨_, rfl⟩

section
variable {X L : Nat → Prop} {w0 : W0} {w : World} {nt : Nat} {ι : Io} {S : St} {a : Act} {P : Program} {τ : Tab}

/-! ### Binary operations on scalars -/

/-- Is the divisor 0? A constant tells by itself. -/
def nzOp (A : Ar) (yo : Operand) (n : Int) : Bool := match yo with
  | .const _ => !(n == 0)
  | _ => A.nz n

def binSc (A : Ar) (op : BinOp) (yo : Operand) (x y : Sc) : Option Sc :=
  match x, y with
  | .int k a, .int k' b => (match op with
    | .shl => (match A.shl k a b with
      | some n => some (.int k n)
      | none => none)
    | .shr => (match A.shr k a b with
      | some n => some (.int k n)
      | none => none)
    | op => if k = k' then (match op with
      | .add => some (.int k (A.wrap k (A.add a b)))
      | .sub => some (.int k (A.wrap k (A.sub a b)))
      | .mul => some (.int k (A.wrap k (A.mul a b)))
      | .quo => (match nzOp A yo b with
        | true => some (.int k (A.wrap k (A.tdiv a b)))
        | false => none)
      | .rem => (match nzOp A yo b with
        | true => some (.int k (A.tmod a b))
        | false => none)
      | .and => some (.int k (A.bits .and k a b))
      | .or => some (.int k (A.bits .or k a b))
      | .xor => some (.int k (A.bits .xor k a b))
      | .andNot => some (.int k (A.bits .andNot k a b))
      | .eql => some (.bool (A.eqI a b))
      | .neq => some (.bool (A.not (A.eqI a b)))
      | .lss => some (.bool (A.ltI a b))
      | .leq => some (.bool (A.leI a b))
      | .gtr => some (.bool (A.ltI b a))
      | .geq => some (.bool (A.leI b a))
      | _ => none) else none)
  | .str a, .str b => (match op with
    | .add => (match A.cat a b with
      | some l => some (.str l)
      | none => none)
    | .eql => some (.bool (A.eqS a b))
    | .neq => some (.bool (A.not (A.eqS a b)))
    | .lss => some (.bool (A.ltS a b))
    | .leq => some (.bool (A.orB (A.ltS a b) (A.eqS a b)))
    | .gtr => some (.bool (A.not (A.orB (A.ltS a b) (A.eqS a b))))
    | .geq => some (.bool (A.not (A.ltS a b)))
    | _ => none)
  | _, _ => none

theorem str_size (l : List UInt8) : (ByteArray.mk l.toArray).size = l.length := by simp [ByteArray.size]
theorem str_append (a b : List UInt8) : ByteArray.mk a.toArray ++ ByteArray.mk b.toArray = ByteArray.mk (a ++ b).toArray := by
  apply ByteArray.ext
  simp [ByteArray.data_append]

theorem binSc_run {op : BinOp} {t : TypeId} {yo : Operand} {x y z : Sc} (hc : ∀ v, yo = .const v → y.val = v) (h : binSc Ar.real op yo x y = some z) :
    (Go.binOp op t x.val y.val).run P w = .ok z.val w := by
  cases x <;> cases y <;> simp only [binSc] at h <;> try (cases h)
  case int.int k a k' b =>
    split at h
    · split at h
      · rename_i n hn
        obtain rfl := Option.some.inj h
        simp only [Ar.real] at hn
        split at hn
        · cases hn
        · rename_i hb
          obtain rfl := Option.some.inj hn
          simp [Go.binOp, Sc.val, Op.shift, hb]
      · cases h
    · split at h
      · rename_i n hn
        obtain rfl := Option.some.inj h
        simp only [Ar.real] at hn
        split at hn
        · cases hn
        · rename_i hb
          obtain rfl := Option.some.inj hn
          simp [Go.binOp, Sc.val, Op.shift, hb]
      · cases h
    · split at h
      · rename_i hk
        subst hk
        have hz : nzOp Ar.real yo b = true → b ≠ 0 := by
          intro hz
          unfold nzOp at hz
          split at hz
          · simpa using hz
          · simpa [Ar.real] using hz
        cases op <;> simp only at h <;> try (cases h; done)
        case quo =>
          split at h
          · rename_i hz'
            obtain rfl := Option.some.inj h
            simp [Go.binOp, Sc.val, Op.intDiv, hz hz', Ar.real]
          · cases h
        case rem =>
          split at h
          · rename_i hz'
            obtain rfl := Option.some.inj h
            simp [Go.binOp, Sc.val, Op.intDiv, hz hz', Ar.real]
          · cases h
        all_goals first
          | contradiction
          | (obtain rfl := Option.some.inj h
             simp [Go.binOp, Sc.val, Op.intArith, Op.intCmp, Op.intBits, Ar.real, Go.bits, bne]; done)
          | (obtain rfl := Option.some.inj h
             simp [Go.binOp, Sc.val, Op.intArith, Op.intCmp, Op.intBits, Ar.real, Go.bits, bne] <;> rfl)
      · cases h
  case str.str a b =>
    cases op <;> simp only at h <;> try (cases h; done)
    case add =>
      split at h
      · rename_i l hl
        obtain rfl := Option.some.inj h
        simp only [Ar.real] at hl
        split at hl
        · cases hl
        · rename_i hle
          obtain rfl := Option.some.inj hl
          simp only [Go.binOp, Sc.val, Op.stringOp, str_size, str_append]
          rw [if_neg hle]
          rfl
      · cases h
    all_goals first
      | contradiction
      | (obtain rfl := Option.some.inj h
         simp [Go.binOp, Sc.val, Op.stringOp, Ar.real]; done)

theorem tmod_within (k : IntKind) {a b : Int} (h : k.min ≤ a ∧ a ≤ k.max) : k.min ≤ a.tmod b ∧ a.tmod b ≤ k.max := by
  have hk : k.min ≤ 0 ∧ 0 ≤ k.max := by cases k <;> decide
  rcases Int.le_total 0 a with h0 | h0
  · have h1 := Int.tmod_nonneg b h0
    have h2 : a.tmod b ≤ a := by
      have := Int.natAbs_tmod a b
      have h3 : a.natAbs % b.natAbs ≤ a.natAbs := Nat.mod_le _ _
      omega
    omega
  · have h1 : a.tmod b ≤ 0 := by
      have := Int.tmod_nonneg b (a := -a) (by omega)
      rw [Int.neg_tmod] at this
      omega
    have h2 : a ≤ a.tmod b := by
      have := Int.natAbs_tmod a b
      have h3 : a.natAbs % b.natAbs ≤ a.natAbs := Nat.mod_le _ _
      omega
    omega

theorem fdiv_within (k : IntKind) {a : Int} (n : Nat) (h : k.min ≤ a ∧ a ≤ k.max) : k.min ≤ a.fdiv (2 ^ n) ∧ a.fdiv (2 ^ n) ≤ k.max := by
  have hk : k.min ≤ 0 ∧ 0 ≤ k.max := by cases k <;> decide
  have hp : (1 : Int) ≤ 2 ^ n := by
    have := Nat.one_le_two_pow (n := n)
    have h2 : ((2 ^ n : Nat) : Int) = 2 ^ n := by simp
    omega
  rw [Int.fdiv_eq_ediv_of_nonneg _ (by omega)]
  rcases Int.le_total 0 a with h0 | h0
  · have h1 : 0 ≤ a / 2 ^ n := Int.ediv_nonneg h0 (by omega)
    have h2 : a / 2 ^ n ≤ a := Int.ediv_le_self _ h0
    omega
  · have h1 : a ≤ a / 2 ^ n := by
      rw [Int.le_ediv_iff_mul_le (by omega)]
      have h3 : (-a) * 1 ≤ (-a) * 2 ^ n := Int.mul_le_mul_of_nonneg_left hp (by omega)
      have h4 : a * 2 ^ n = -((-a) * 2 ^ n) := by rw [Int.neg_mul, Int.neg_neg]
      omega
    have h2 : a / 2 ^ n ≤ 0 := by
      have : a / 2 ^ n ≤ 0 / 2 ^ n := Int.ediv_le_ediv (by omega) h0
      simpa using this
    omega

theorem binSc_ok {op : BinOp} {yo : Operand} {x y z : Sc} (hx : x.ok) (hy : y.ok) (h : binSc Ar.real op yo x y = some z) : z.ok := by
  cases x <;> cases y <;> simp only [binSc] at h <;> try (cases h)
  case int.int k a k' b =>
    split at h
    · split at h
      · rename_i n hn
        obtain rfl := Option.some.inj h
        simp only [Ar.real] at hn
        split at hn
        · cases hn
        · obtain rfl := Option.some.inj hn
          exact ok_wrap _ _
      · cases h
    · split at h
      · rename_i n hn
        obtain rfl := Option.some.inj h
        simp only [Ar.real] at hn
        split at hn
        · cases hn
        · obtain rfl := Option.some.inj hn
          exact fdiv_within _ _ hx
      · cases h
    · split at h
      · rename_i hk
        subst hk
        cases op <;> simp only at h <;> try (cases h; done)
        all_goals first
          | contradiction
          | (obtain rfl := Option.some.inj h; trivial)
          | (obtain rfl := Option.some.inj h; exact ok_wrap _ _)
          | (obtain rfl := Option.some.inj h; exact bits_within _ _ _ _)
          | (split at h
             · obtain rfl := Option.some.inj h; first | exact ok_wrap _ _ | exact tmod_within _ hx
             · cases h)
      · cases h
  case str.str a b =>
    cases op <;> simp only at h <;> try (cases h; done)
    all_goals first
      | contradiction
      | (obtain rfl := Option.some.inj h; trivial)
      | (split at h
         · rename_i l hl
           obtain rfl := Option.some.inj h
           simp only [Ar.real] at hl
           split at hl
           · cases hl
           · rename_i hle
             obtain rfl := Option.some.inj hl
             have hm : IntKind.i64.max = 9223372036854775807 := by decide
             rw [hm] at hle
             show (a ++ b).length ≤ maxLen
             simp only [List.length_append, maxLen]
             omega
         · cases h)

end
end Go.Ua
