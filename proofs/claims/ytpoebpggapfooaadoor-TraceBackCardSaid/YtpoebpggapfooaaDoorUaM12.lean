/- The library of this claim and its walks, part 12, joined out of smaller texts. No statement stands in it. -/
import Derived.Test.YtpoebpggapfooaaDoorUaM11
import Derived.Lib.AppendIntMem
import Derived.Lib.ItoaLen
/- The arithmetic behind the variable 'F', as one meets it; the library's words. A library of this claim's own: no statement stands in it. -/
namespace Go.Ua
open Go Go.Proofs
set_option linter.unusedVariables false
set_option linter.unusedSimpArgs false

section
variable {F : Fam} (hF : F = Fam.real)
include hF
theorem l_lenS (u : List UInt8) : F .lenS u = u.length := by subst hF; rfl
theorem l_lenD (es : List Dat) : F .lenD es = es.length := by subst hF; rfl
theorem l_ltI (a b : Int) : F .ltI a b = decide (a < b) := by rw [hF]; rfl
theorem l_leI (a b : Int) : F .leI a b = decide (a ≤ b) := by rw [hF]; rfl
theorem l_eqI (a b : Int) : F .eqI a b = (a == b) := by rw [hF]; rfl
theorem l_eqS (a b : List UInt8) : F .eqS a b = (a == b) := by rw [hF]; rfl
theorem l_eqB (a b : Bool) : F .eqB a b = (a == b) := by rw [hF]; rfl
theorem l_not (b : Bool) : F .not b = !b := by rw [hF]; rfl
theorem l_not0 : F .not false = true := by rw [hF]; rfl
theorem l_not1 : F .not true = false := by rw [hF]; rfl
theorem ltI1 {a b : Int} (h : F .ltI a b = true) : a < b := by rw [hF] at h; exact of_decide_eq_true h
theorem ltI0 {a b : Int} (h : F .ltI a b = false) : ¬ a < b := by rw [hF] at h; exact of_decide_eq_false h
theorem leI1 {a b : Int} (h : F .leI a b = true) : a ≤ b := by rw [hF] at h; exact of_decide_eq_true h
theorem leI0 {a b : Int} (h : F .leI a b = false) : ¬ a ≤ b := by rw [hF] at h; exact of_decide_eq_false h
theorem eqI1 {a b : Int} (h : F .eqI a b = true) : a = b := by rw [hF] at h; exact eq_of_beq h
theorem eqI0 {a b : Int} (h : F .eqI a b = false) : a ≠ b := by
  rw [hF] at h
  intro e
  subst e
  have : (a == a) = true := by simp
  exact absurd (this.symm.trans h) (by decide)
theorem eqS1 {a b : List UInt8} (h : F .eqS a b = true) : a = b := by rw [hF] at h; exact eq_of_beq h
theorem eqS0 {a b : List UInt8} (h : F .eqS a b = false) : a ≠ b := by
  rw [hF] at h
  intro e
  subst e
  have : (a == a) = true := by simp
  exact absurd (this.symm.trans h) (by decide)
theorem l_getS {s : List UInt8} {i : Nat} {c : UInt8} {iv : Int} (h : s[i]? = some c) (hi : iv = i) : F .getS s iv = some (c.toNat : Int) := by
  subst hF; subst hi
  show (getI s (i : Int)).map _ = _
  simp [getI, h]
theorem l_getD {es : List Dat} {i : Nat} {d : Dat} {iv : Int} (h : es[i]? = some d) (hi : iv = i) : F .getD es iv = some d := by
  subst hF; subst hi
  show getI es (i : Int) = some d
  simp [getI, h]
theorem l_cat {a b : List UInt8} (h : a.length + b.length ≤ maxLen) : F .cat a b = some (a ++ b) := by
  rw [hF]
  show (if ((a.length + b.length : Nat) : Int) > IntKind.i64.max then none else some (a ++ b)) = _
  have hm : (maxLen : Int) = IntKind.i64.max := by decide
  rw [if_neg (by omega)]
end

theorem w_i64 {n : Int} (h0 : -9223372036854775808 ≤ n) (h : n ≤ 9223372036854775807) : IntKind.i64.wrap n = n := by
  simp only [IntKind.wrap, IntKind.bits, IntKind.signed]
  simp
  split <;> omega
theorem w_u8 {n : Int} (h0 : 0 ≤ n) (h : n < 256) : IntKind.u8.wrap n = n := by
  simp only [IntKind.wrap, IntKind.bits, IntKind.signed]
  simp
  omega
theorem inc_i {F : Fam} (hF : F = Fam.real) {iv : Int} {i : Nat} (hiv : iv = i) (hn : i < 9223372036854775807) : F .wrap .i64 (F .add iv 1) = ((i + 1 : Nat) : Int) := by
  rw [hF, hiv]
  show IntKind.i64.wrap ((i : Int) + 1) = _
  rw [w_i64 (by omega) (by omega)]
  omega

section
variable {F : Fam} (hF : F = Fam.real)
include hF
theorem l_digit {k : Nat} {v : Int} (hv : v = k) (hk : k < 10) : F .strD [.s (.int .u8 (F .wrap .u8 (F .wrap .i64 (F .add 48 v))))] = some [UInt8.ofNat (48 + k)] := by
  rw [hF, hv]
  show strOf [.s (.int .u8 (IntKind.u8.wrap (IntKind.i64.wrap (48 + (k : Int)))))] = _
  rw [w_i64 (by omega) (by omega), w_u8 (by omega) (by omega)]
  have e1 : (48 + (k : Int)).toNat = 48 + k := by omega
  have e2 : (UInt8.ofNat (48 + k)).toNat = 48 + k := by simp; omega
  simp only [strOf, e1, e2]
  rw [if_pos (by omega)]
theorem l_rem10 {k : Nat} {v : Int} (hv : v = k) : F .tmod v 10 = ((k % 10 : Nat) : Int) := by
  rw [hF, hv]; rfl
theorem l_div10 {k : Nat} {v : Int} (hv : v = k) (hk : k ≤ 9223372036854775807) : F .wrap .i64 (F .tdiv v 10) = ((k / 10 : Nat) : Int) := by
  rw [hF, hv]
  show IntKind.i64.wrap (Int.tdiv (k : Int) 10) = _
  rw [show Int.tdiv (k : Int) 10 = ((k / 10 : Nat) : Int) from rfl, w_i64 (by omega) (by omega)]
end

theorem itoa_nat (n : Nat) : Lib.itoa (n : Int) = Lib.decDigits n := by
  unfold Lib.itoa
  rw [if_neg (by omega)]
  simp
theorem decDigits_le (n : Nat) (hn : n ≤ 9223372036854775807) : (Lib.decDigits n).length ≤ 21 := by
  rw [← itoa_nat]
  exact Lib.itoa_length_le _ (by omega) (by omega)
def I64 (n : Int) : Prop := -9223372036854775808 ≤ n ∧ n ≤ 9223372036854775807
theorem itoa_ok {n : Int} (h : I64 n) : (Lib.itoa n).length ≤ 21 := Lib.itoa_length_le n h.1 h.2
end Go.Ua

/- Code evaluated into a tree of its paths: conditions, needs, where each path stops. A library of this claim's own: no statement stands in it. -/
namespace Go.Ua
open Go Go.Proofs
set_option linter.unusedVariables false
set_option linter.unusedSimpArgs false
set_option linter.unusedSectionVars false

/-- What is told of calls: by function, of arguments: what they must meet, what comes back. -/
abbrev Tbl := List (Nat × (List AV → Option (Bool × AV)))

def SpOK (P : Program) [Globs P] (g : FuncId) (φ : List AV → Option (Bool × AV)) : Prop := ∀ xs b x, φ xs = some (b, x) → b = true → ESpec P g xs (fun y => y = x)

def TblOK (P : Program) [Globs P] : Tbl → Prop
  | [] => True
  | p :: r => SpOK P p.1 p.2 ∧ TblOK P r

theorem TblOK.get {P : Program} [Globs P] {g : Nat} {φ : List AV → Option (Bool × AV)} : ∀ {G : Tbl}, TblOK P G → look g G = some φ → SpOK P g φ
  | [], _, h => by simp [look] at h
  | p :: r, H, h => by
    rw [look_cons] at h
    split at h
    · rename_i e
      obtain rfl := Option.some.inj h
      subst e
      exact H.1
    · exact H.2.get h

inductive Tree where
  | node (b : Bool) (t f : Tree)
  | need (b : Bool) (t : Tree)
  | leaf (k : List KI) (S : St)

/-- What a slice's elements are made of. -/
def shFold (f : TypeId → Option (List SK)) : List (Nat × TypeId) → Option (List SK)
  | [] => some []
  | p :: r => (match f p.2, shFold f r with
    | some a, some b => some (a ++ b)
    | _, _ => none)

def shapeOf (τ : Tab) : Nat → TypeId → Option (List SK)
  | 0, _ => none
  | n + 1, t => (match kindOf τ t with
    | .string => some [.str]
    | .bool => some [.bool]
    | .int k => some [.int k]
    | .slice e => some [.view (sizeAt τ e)]
    | .struct fs => shFold (shapeOf τ n) fs
    | _ => none)

def cellF (F : Fam) (es : List Dat) (n : Int) (j : Nat) : SK → Dat
  | .str => .s (.str (F .strA es n j))
  | .bool => .s (.bool (F .boolA es n j))
  | .int k => .s (.int k (F .intA es n j))
  | .view k => .view k (F .viewA es n j)

def cellsF (F : Fam) (es : List Dat) (n : Int) : Nat → List SK → List Dat
  | _, [] => []
  | j, s :: r => cellF F es n j s :: cellsF F es n (j + 1) r

def litX (dc : List Nat) : Operand → Bool
  | .tmp s => memN s dc
  | .const (.bool _) => true
  | _ => false

/-- Operations whose answer wants something of the data. -/
def opT (F : Fam) (τ : Tab) (dc : List Nat) (S : St) : Op → Option (Bool × AV)
  | .index t x i => (match kindOf τ t, evl S x, evl S i with
    | .string, .d (.s (.str l)), .d (.s (.int _ n)) => some (F .hasS l n, .d (.s (.int .u8 (F .atS l n))))
    | _, _, _ => none)
  | .slice t x lo hi none => (match kindOf τ t, evl S x with
    | .string, .d (.s (.str l)) => (match bnd (omap S lo) 0, bnd (omap S hi) (F .lenS l) with
      | some i, some j => some (F .hasC l i j, .d (.s (.str (F .subS l i j))))
      | _, _ => none)
    | .slice e, .d (.view k es) => (match sizeAt τ e with
      | 0 => none
      | s + 1 => (match Nat.beq k (s + 1), bnd (omap S lo) 0, bnd (omap S hi) (F .lenD es) with
        | true, some i, some j => some (F .hasV es i j, .d (.view k (F .subV es i j)))
        | _, _, _ => none))
    | _, _ => none)
  | .binOp .add _ x y _ => (match evl S x, evl S y with
    | .d (.s (.str a)), .d (.s (.str b)) => some (F .hasCat a b, .d (.s (.str (F .app a b))))
    | _, _ => none)
  | .indexAddr t x i => (match kindOf τ t, evl S x, evl S i with
    | .slice e, .d (.view k es), .d (.s (.int _ n)) => (match sizeAt τ e, shapeOf τ 6 e with
      | s + 1, some sk => (match Nat.beq k (s + 1) with
        | true => some (F .hasD es n sk, .d (.vref (cellsF F es n 0 sk)))
        | false => none)
      | _, _ => none)
    | _, _, _ => none)
  | .convert s d x => (match kindOf τ s, kindOf τ d, evl S x with
    | .slice e, .string, .d (.view k es) => (match kindOf τ e, Nat.beq k 1 with
      | .int .u8, true => some (F .hasStr es, .d (.s (.str (F .ofStr es))))
      | _, _ => none)
    | _, _, _ => none)
  | .unOp .not _ x => (match litX dc x, evl S x with
    | true, .d (.s (.bool b)) => (match b with
      | true => some (true, .d (.s (.bool false)))
      | false => some (true, .d (.s (.bool true))))
    | _, _ => none)
  | _ => none

theorem sks_cells (es : List Dat) (n : Int) (d : Dat) (h : es.getD n.toNat (.agg []) = d) : ∀ (sk : List SK) (j : Nat) (cs : List Dat), d.cells.drop j = cs → sksOK sk cs = true → cs = cellsF Fam.real es n j sk
  | [], j, [], _, _ => rfl
  | [], j, c :: cs, _, h2 => by simp [sksOK] at h2
  | s :: sk, j, [], _, h2 => by simp [sksOK] at h2
  | s :: sk, j, c :: cs, h1, h2 => by
    simp only [sksOK, Bool.and_eq_true] at h2
    have hj : d.cells[j]? = some c := by
      have := congrArg (·[0]?) h1
      simpa using this
    have hg : ((es.getD n.toNat (.agg [])).cells).getD j (.agg []) = c := by rw [h, List.getD_eq_getElem?_getD, hj]; rfl
    have ht : d.cells.drop (j + 1) = cs := by
      have := congrArg List.tail h1
      simpa using this
    have ih := sks_cells es n d h sk (j + 1) cs ht h2.2
    have hc : c = cellF Fam.real es n j s := by
      have h3 := h2.1
      unfold skOK at h3
      split at h3
      · show _ = Dat.s (.str (match ((es.getD n.toNat (.agg [])).cells).getD j (.agg []) with | .s (.str s) => s | _ => []))
        rw [hg]
      · show _ = Dat.s (.bool (match ((es.getD n.toNat (.agg [])).cells).getD j (.agg []) with | .s (.bool s) => s | _ => false))
        rw [hg]
      · rename_i k k' m
        obtain rfl := of_decide_eq_true h3
        show _ = Dat.s (.int k (match ((es.getD n.toNat (.agg [])).cells).getD j (.agg []) with | .s (.int _ s) => s | _ => 0))
        rw [hg]
      · rename_i k k' m
        obtain rfl := Nat.eq_of_beq_eq_true h3
        show _ = Dat.view k (match ((es.getD n.toNat (.agg [])).cells).getD j (.agg []) with | .view _ s => s | _ => [])
        rw [hg]
      · cases h3
    rw [cellsF, ← hc, ← ih]

theorem hasD_some {es : List Dat} {n : Int} {sk : List SK} (h : Fam.real .hasD es n sk = true) : ∃ d, Ar.real.getD es n = some d ∧ d.cells = cellsF Fam.real es n 0 sk := by
  have h : (match getI es n with | some d => sksOK sk d.cells | none => false) = true := h
  split at h
  · rename_i d hd
    refine ⟨d, hd, ?_⟩
    obtain ⟨_, _, h3⟩ := getI_some hd
    exact sks_cells es n d (by rw [List.getD_eq_getElem?_getD, h3]; rfl) sk 0 d.cells (by simp) h
  · cases h

theorem opT_pure {τ : Tab} {dc : List Nat} {S : St} {op : Op} {b : Bool} {z : AV} (h : opT Fam.real τ dc S op = some (b, z)) (hb : b = true) : pureOp Ar.real τ S op = some z := by
  unfold opT at h
  split at h
  · rename_i t x i
    split at h
    · rename_i l k n hk hx hi
      simp only [Option.some.injEq, Prod.mk.injEq] at h
      obtain ⟨rfl, rfl⟩ := h
      have hb : (decide (0 ≤ n) && decide (n < (l.length : Int))) = true := hb
      simp only [Bool.and_eq_true, decide_eq_true_eq] at hb
      simp only [pureOp, indexAV, hk, hx, hi]
      have : Ar.real.getS l n = some (Fam.real .atS l n) := by
        show (getI l n).map (fun b => (b.toNat : Int)) = some (((l.getD n.toNat 0).toNat : Nat) : Int)
        unfold getI
        rw [if_pos hb.1, List.getElem?_eq_getElem (by omega), List.getD_eq_getElem?_getD, List.getElem?_eq_getElem (by omega)]
        rfl
      rw [this]
    · cases h
  · rename_i t x lo hi
    split at h
    · rename_i l hk hx
      split at h
      · rename_i i j hlo hhi
        simp only [Option.some.injEq, Prod.mk.injEq] at h
        obtain ⟨rfl, rfl⟩ := h
        have hb : (decide (0 ≤ i) && (decide (i ≤ j) && decide (j ≤ (l.length : Int)))) = true := hb
        simp only [Bool.and_eq_true, decide_eq_true_eq] at hb
        simp only [pureOp, hx, sliceAV, hk, show omap S none = none from rfl]
        have e1 : bnd (omap S hi) (Ar.real.lenS l) = some j := hhi
        rw [hlo, e1]
        have : Ar.real.cutS l i j = some (Fam.real .subS l i j) := by
          show cutI l i j = _
          unfold cutI
          rw [if_pos ⟨hb.1, hb.2.1, hb.2.2⟩]
          rfl
        simp only [this]
      · cases h
    · rename_i e k es hk hx
      split at h
      · cases h
      · rename_i s hs
        split at h
        · rename_i i j hks hlo hhi
          simp only [Option.some.injEq, Prod.mk.injEq] at h
          obtain ⟨rfl, rfl⟩ := h
          have hb : (decide (0 ≤ i) && (decide (i ≤ j) && decide (j ≤ (es.length : Int)))) = true := hb
          simp only [Bool.and_eq_true, decide_eq_true_eq] at hb
          simp only [pureOp, hx, sliceAV, hk, show omap S none = none from rfl, hs]
          have e1 : bnd (omap S hi) (Ar.real.lenD es) = some j := hhi
          rw [if_pos (Nat.eq_of_beq_eq_true hks), hlo, e1]
          have : Ar.real.cutD es i j = some (Fam.real .subV es i j) := by
            show cutI es i j = _
            unfold cutI
            rw [if_pos ⟨hb.1, hb.2.1, hb.2.2⟩]
            rfl
          simp only [this]
        · cases h
    · cases h
  · rename_i t x y ty
    split at h
    · rename_i a c hx hy
      simp only [Option.some.injEq, Prod.mk.injEq] at h
      obtain ⟨rfl, rfl⟩ := h
      have hb : decide (a.length + c.length ≤ 9223372036854775807) = true := hb
      simp only [decide_eq_true_eq] at hb
      have : Ar.real.cat a c = some (Fam.real .app a c) := by
        show (if ((a.length + c.length : Nat) : Int) > IntKind.i64.max then none else some (a ++ c)) = _
        have hm : IntKind.i64.max = 9223372036854775807 := by decide
        rw [if_neg (by rw [hm]; omega)]
        rfl
      simp only [pureOp, hx, hy, binAV, binSc, this]
    · cases h
  · rename_i t x i
    split at h
    · rename_i e k es k2 n hk hx hi
      split at h
      · rename_i s sk hs hsk
        split at h
        · rename_i hks
          simp only [Option.some.injEq, Prod.mk.injEq] at h
          obtain ⟨rfl, rfl⟩ := h
          obtain ⟨d, hd, hc⟩ := hasD_some hb
          simp only [pureOp, hx, hk, hs, indexAddrAV, hi]
          rw [if_pos (Nat.eq_of_beq_eq_true hks)]
          simp only [hd, hc]
        · cases h
      · cases h
    · cases h
  · rename_i s d x
    split at h
    · rename_i e k es hs hd hx
      split at h
      · rename_i he hk1
        simp only [Option.some.injEq, Prod.mk.injEq] at h
        obtain ⟨rfl, rfl⟩ := h
        have hb : (strOf es).isSome = true := hb
        simp only [pureOp, hx, strAV, hs, hd, he, hk1]
        obtain ⟨l, hl⟩ := Option.isSome_iff_exists.1 hb
        have e1 : Ar.real.strD es = some l := hl
        have e2 : Fam.real .ofStr es = l := by show (strOf es).getD [] = l; rw [hl]; rfl
        simp only [e1, e2]
      · cases h
    · cases h
  · rename_i t x
    split at h
    · rename_i b0 hl hx
      cases b0 <;> simp only [Option.some.injEq, Prod.mk.injEq] at h <;> obtain ⟨rfl, rfl⟩ := h <;> simp only [pureOp, hx, unAV] <;> rfl
    · cases h
  · cases h

/-- Appending: that there is room is what it wants. -/
def apT (F : Fam) (S : St) (e : TypeId) (y : Ty) (es2 : List Dat) (s : AV) : Option (Bool × AV × St) := match s with
  | .row n k0 => (match look n S.h with
    | some (.ds E k1 es) => (match Nat.beq E e, Nat.beq k1 y.size, Nat.beq k0 y.size with
      | true, true, true => some (F .fits y.bytes (F .appD es es2), .row S.fr y.size, S.rep n (.ds e y.size (F .appD es es2)))
      | _, _, _ => none)
    | _ => none)
  | .d (.s .sl0) => some (F .fits y.bytes es2, .row S.fr y.size, S.new (.ds e y.size es2))
  | .nul => some (F .fits y.bytes es2, .row S.fr y.size, S.new (.ds e y.size es2))
  | _ => none

def apOp (F : Fam) (τ : Tab) (S : St) (t1 t2 : TypeId) (s x : AV) : Option (Bool × AV × St) :=
  match kindOf τ t1 with
  | .slice e => (match look e τ with
    | some y => (match okZero y && (y.size != 0 && y.bytes != 0) with
      | true => (match Nat.beq t1 t2 with
        | true => (match srcOf S x with
          | some (k, es2) => (match Nat.beq k y.size with
            | true => apT F S e y es2 s
            | false => none)
          | none => none)
        | false => (match kindOf τ t2, kindOf τ e, x, Nat.beq y.size 1 with
          | .string, .int .u8, .d (.s (.str l)), true => apT F S e y (F .bytesD l) s
          | _, _, _, _ => none))
      | false => none)
    | none => none)
  | _ => none

theorem apT_ok {S : St} {e : TypeId} {y : Ty} {es2 : List Dat} {s z : AV} {b : Bool} {S' : St} (h : apT Fam.real S e y es2 s = some (b, z, S')) (hb : b = true) : appG Ar.real S e y es2 s = some (z, S') := by
  unfold apT at h
  split at h
  · rename_i n k0
    split at h
    · rename_i E k1 es hl
      split at h
      · rename_i h1 h2 h3
        simp only [Option.some.injEq, Prod.mk.injEq] at h
        obtain ⟨rfl, rfl, rfl⟩ := h
        simp only [appG, hl]
        rw [if_pos ⟨Nat.eq_of_beq_eq_true h1, Nat.eq_of_beq_eq_true h2, Nat.eq_of_beq_eq_true h3⟩]
        have e1 : Ar.real.fits y.bytes (Ar.real.appD es es2) = true := hb
        rw [e1]
        rfl
      · cases h
    · cases h
  · simp only [Option.some.injEq, Prod.mk.injEq] at h
    obtain ⟨rfl, rfl, rfl⟩ := h
    have e1 : Ar.real.fits y.bytes es2 = true := hb
    simp only [appG, e1]
  · simp only [Option.some.injEq, Prod.mk.injEq] at h
    obtain ⟨rfl, rfl, rfl⟩ := h
    have e1 : Ar.real.fits y.bytes es2 = true := hb
    simp only [appG, e1]
  · cases h

theorem apOp_ok {τ : Tab} {S : St} {t1 t2 : TypeId} {s x z : AV} {b : Bool} {S' : St} (h : apOp Fam.real τ S t1 t2 s x = some (b, z, S')) (hb : b = true) : appendOp Ar.real τ S t1 t2 s x = some (z, S') := by
  unfold apOp at h
  unfold appendOp
  split at h
  · rename_i e hk
    rw [hk]
    simp only
    split at h
    · rename_i y hy
      rw [hy]
      simp only
      split at h
      · rename_i hz
        rw [hz]
        simp only
        split at h
        · rename_i ht
          rw [ht]
          simp only
          split at h
          · rename_i k es2 hs
            rw [hs]
            simp only
            split at h
            · rename_i hks
              rw [if_pos (Nat.eq_of_beq_eq_true hks)]
              exact apT_ok h hb
            · cases h
          · cases h
        · rename_i ht
          rw [ht]
          simp only
          split at h
          · rename_i l h1 h2 h3
            rw [h1, h2, h3]
            simp only
            exact apT_ok h hb
          · cases h
      · cases h
    · cases h
  · cases h

/-- Operations with an effect whose answer wants something. -/
def opE (F : Fam) (τ : Tab) (S : St) : Op → Option (Bool × AV × St)
  | .call c => (match c.callee, c.argTypes.toList, c.args.toList with
    | .builtin .append, [t1, t2], [s, x] => apOp F τ S t1 t2 (evl S s) (evl S x)
    | _, _, _ => none)
  | _ => none

theorem opE_ok {τ : Tab} {S : St} {op : Op} {b : Bool} {z : AV} {S' : St} (h : opE Fam.real τ S op = some (b, z, S')) (hb : b = true) : effOp Ar.real τ S op = some (z, S') ∧ pureOp Ar.real τ S op = none := by
  unfold opE at h
  split at h
  · rename_i c
    split at h
    · rename_i t1 t2 s x h1 h2 h3
      refine ⟨?_, ?_⟩
      · simp only [effOp, h1, h2, h3]
        exact apOp_ok h hb
      · simp only [pureOp, h1, h2]
        rfl
    · cases h
  · cases h

/-- What a call comes to, as told. -/
def callT (G : Tbl) (S : St) (op : Op) : Option (Bool × AV) := match op with
  | .call c => (match c.callee with
    | .value fo => (match fargs (evl S fo) with
      | some (g, fi, ca) => (match look g G with
        | some φ => (match φ (app3 fi (evls S c.args.toList) ca) with
          | some (b, x) => (match lts 0 (app3 fi (evls S c.args.toList) ca), x.lt 0 with
            | true, true => some (b, x)
            | _, _ => none)
          | none => none)
        | none => none)
      | none => none)
    | _ => none)
  | _ => none

/-- What is not decided yet. -/
def askX (dc : List Nat) (S : St) : Operand → Option (Nat × Bool)
  | .tmp d => (match memN d dc with
    | true => none
    | false => (match look d S.t with
      | some (.d (.s (.bool b))) => some (d, b)
      | _ => none))
  | _ => none

def askG (dc : List Nat) (all : List Oper) (S : St) (o : Oper) : Option (Nat × Bool) := match o.guard with
  | none => none
  | some (j, _) => (match all[j]? with
    | some oj => (match oj.dst with
      | some d => askX dc S (.tmp d)
      | none => none)
    | none => none)

def askP (dc : List Nat) (S : St) : Op → Option (Nat × Bool)
  | .pick c _ _ => askX dc S c
  | _ => none

def litO (dc : List Nat) (S : St) : Op → Bool
  | .move x => litX dc x
  | .assign x => litX dc x
  | .unOp .not _ x => litX dc x
  | .pick c x y => (match litX dc c, evl S c with
    | true, .d (.s (.bool b)) => (match b with
      | true => litX dc x
      | false => litX dc y)
    | _, _ => false)
  | _ => false

def delN (n : Nat) : List Nat → List Nat
  | [] => []
  | m :: l => (match Nat.beq m n with
    | true => delN n l
    | false => m :: delN n l)

def dcP (dc : List Nat) (d : Option Nat) (l : Bool) : List Nat := match d with
  | none => dc
  | some d => (match l with
    | true => d :: dc
    | false => delN d dc)

def setT (d : Nat) (x : AV) : List (Nat × AV) → List (Nat × AV)
  | [] => []
  | p :: r => (match Nat.beq p.1 d with
    | true => (p.1, x) :: r
    | false => p :: setT d x r)

theorem setT_id {d : Nat} {x : AV} : ∀ {t : List (Nat × AV)}, look d t = some x → setT d x t = t
  | [], h => by simp [look] at h
  | (i, y) :: r, h => by
    simp only [look] at h
    simp only [setT]
    split at h
    · rename_i e
      obtain rfl := Option.some.inj h
      rw [e]
    · rename_i e
      rw [e]
      simp only [setT_id h]

def St.lit (S : St) (d : Nat) (b : Bool) : St := ⟨setT d (.d (.s (.bool b))) S.t, S.h, S.fr⟩

theorem lit_id {S : St} {d : Nat} {b : Bool} (h : look d S.t = some (.d (.s (.bool b)))) : S.lit d b = S := by
  unfold St.lit
  rw [setT_id h]

theorem askX_look {dc : List Nat} {S : St} {x : Operand} {d : Nat} {b : Bool} (h : askX dc S x = some (d, b)) : look d S.t = some (.d (.s (.bool b))) := by
  unfold askX at h
  split at h
  · split at h
    · cases h
    · split at h
      · rename_i b' hl
        simp only [Option.some.injEq, Prod.mk.injEq] at h
        obtain ⟨rfl, rfl⟩ := h
        exact hl
      · cases h
  · cases h

theorem askG_look {dc : List Nat} {all : List Oper} {S : St} {o : Oper} {d : Nat} {b : Bool} (h : askG dc all S o = some (d, b)) : look d S.t = some (.d (.s (.bool b))) := by
  unfold askG at h
  split at h
  · cases h
  · split at h
    · split at h
      · exact askX_look h
      · cases h
    · cases h

theorem askP_look {dc : List Nat} {S : St} {op : Op} {d : Nat} {b : Bool} (h : askP dc S op = some (d, b)) : look d S.t = some (.d (.s (.bool b))) := by
  unfold askP at h
  split at h
  · exact askX_look h
  · cases h

def viewO (τ : Tab) (S : St) : Op → Option AV
  | .buildSlice t n parts => (match bsView τ t n (evps S parts.toList) with
    | some (k, _, es) => some (.d (.view k es))
    | none => none)
  | _ => none

/-- A row is looked into: it is told first that nobody writes it any more. -/
def stopR (S : St) : Op → Bool
  | .slice _ x _ _ _ => (match evl S x with
    | .row _ _ => true
    | _ => false)
  | .indexAddr _ x _ => (match evl S x with
    | .row _ _ => true
    | _ => false)
  | .convert _ _ x => (match evl S x with
    | .row _ _ => true
    | _ => false)
  | _ => false

/-- A region that draws its order: its operations in the text's order, as long as they are such that the order doesn't matter. -/
def runDT (F : Fam) (τ : Tab) (nt : Nat) (G : Tbl) (all : List Oper) (st : Tree) (K : List Oper → List Nat → St → Tree) : Nat → Nat → List Nat → List Oper → St → Tree
  | 0, _, _, _, _ => st
  | f + 1, j, dc, [], S => (match chkAny all.length all with
    | true => K [] dc S
    | false => st)
  | f + 1, j, dc, o :: r, S => (match chkTail all j (o :: r) with
    | true => (match chkAny (all.length - (o :: r).length) all with
      | true => K (o :: r) dc S
      | false => st)
    | false => (match askG dc all S o with
      | some (d, b) => .node b (runDT F τ nt G all st K f j (d :: dc) (o :: r) (S.lit d true)) (runDT F τ nt G all st K f j (d :: dc) (o :: r) (S.lit d false))
      | none => (match (match o.dst with
          | some d => Nat.blt d nt
          | none => true), guardB all S o with
        | true, some true => (match askP dc S o.op with
          | some (d, b) => .node b (runDT F τ nt G all st K f j (d :: dc) (o :: r) (S.lit d true)) (runDT F τ nt G all st K f j (d :: dc) (o :: r) (S.lit d false))
          | none => (match callT G S o.op with
            | some (b, z) => .need b (runDT F τ nt G all st K f (j + 1) (dcP dc o.dst false) r (S.put o.dst z))
            | none => (match opT F τ dc S o.op with
              | some (b, z) => .need b (runDT F τ nt G all st K f (j + 1) (dcP dc o.dst (litO dc S o.op)) r (S.put o.dst z))
              | none => (match viewO τ S o.op with
                | some z => runDT F τ nt G all st K f (j + 1) (dcP dc o.dst false) r (S.put o.dst z)
                | none => (match stopR S o.op with
                  | true => st
                  | false => (match pureOp (Ar.of F) τ S o.op with
                    | some z => runDT F τ nt G all st K f (j + 1) (dcP dc o.dst (litO dc S o.op)) r (S.put o.dst z)
                    | none => st))))))
        | true, some false => runDT F τ nt G all st K f (j + 1) (dcP dc o.dst false) r (S.put o.dst (.tup []))
        | _, _ => st)))

def runT (F : Fam) (τ : Tab) (nt : Nat) (fz : Bool) (G : Tbl) (sp : List Nat) : Nat → List Nat → List KI → St → Tree
  | 0, _, k, S => .leaf k S
  | f + 1, dc, k, S => (match k with
    | [] => .leaf [] S
    | .back J :: k => .leaf (.back J :: k) S
    | .blk _ :: k => runT F τ nt fz G sp f dc k S
    | .ops _ [] :: k => runT F τ nt fz G sp f dc k S
    | .ops all (o :: r) :: k => (match askG dc all S o with
      | some (d, b) => .node b (runT F τ nt fz G sp f (d :: dc) (.ops all (o :: r) :: k) (S.lit d true)) (runT F τ nt fz G sp f (d :: dc) (.ops all (o :: r) :: k) (S.lit d false))
      | none => (match (match o.dst with
          | some d => Nat.blt d nt
          | none => true), guardB all S o with
        | true, some true => (match askP dc S o.op with
          | some (d, b) => .node b (runT F τ nt fz G sp f (d :: dc) (.ops all (o :: r) :: k) (S.lit d true)) (runT F τ nt fz G sp f (d :: dc) (.ops all (o :: r) :: k) (S.lit d false))
          | none => (match callT G S o.op with
            | some (b, z) => .need b (runT F τ nt fz G sp f (dcP dc o.dst false) (.ops all r :: k) (S.put o.dst z))
            | none => (match opT F τ dc S o.op with
              | some (b, z) => .need b (runT F τ nt fz G sp f (dcP dc o.dst (litO dc S o.op)) (.ops all r :: k) (S.put o.dst z))
              | none => (match opE F τ S o.op with
                | some (b, z, S') => .need b (runT F τ nt fz G sp f (dcP dc o.dst false) (.ops all r :: k) (S'.put o.dst z))
                | none => (match (match fz with
                    | true => viewO τ S o.op
                    | false => none) with
                  | some z => runT F τ nt fz G sp f (dcP dc o.dst false) (.ops all r :: k) (S.put o.dst z)
                  | none => (match stopR S o.op with
                    | true => .leaf (.ops all (o :: r) :: k) S
                    | false => (match stepOp (Ar.of F) τ nt S o with
                      | some S' => runT F τ nt fz G sp f (dcP dc o.dst (litO dc S o.op)) (.ops all r :: k) S'
                      | none => .leaf (.ops all (o :: r) :: k) S)))))))
        | true, some false => runT F τ nt fz G sp f (dcP dc o.dst false) (.ops all r :: k) (S.put o.dst (.tup []))
        | _, _ => .leaf (.ops all (o :: r) :: k) S))
    | .code c :: k => (match c with
      | .skip => runT F τ nt fz G sp f dc k S
      | .seq x y => runT F τ nt fz G sp f dc (.code x :: .code y :: k) S
      | .block id x => runT F τ nt fz G sp f dc (.code x :: .blk id :: k) S
      | .exit id => (match unw id k with
        | some k' => runT F τ nt fz G sp f dc k' S
        | none => .leaf (.code (.exit id) :: k) S)
      | .cond c x y => (match askX dc S c with
        | some (d, b) => .node b (runT F τ nt fz G sp f (d :: dc) (.code x :: k) (S.lit d true)) (runT F τ nt fz G sp f (d :: dc) (.code y :: k) (S.lit d false))
        | none => (match evl S c with
          | .d (.s (.bool b)) => (match b with
            | true => runT F τ nt fz G sp f dc (.code x :: k) S
            | false => runT F τ nt fz G sp f dc (.code y :: k) S)
          | _ => .leaf (.code (.cond c x y) :: k) S))
      | .region id ops dr => (match memN id sp with
        | true => .leaf (.code (.region id ops dr) :: k) S
        | false => (match dr with
        | false => runT F τ nt fz G sp f dc (.ops ops.toList ops.toList :: k) S
        | true => runDT F τ nt G ops.toList (.leaf (.code (.region id ops true) :: k) S) (fun rest dc S => runT F τ nt fz G sp f dc (.ops ops.toList rest :: k) S) 10000 0 dc ops.toList S))
      | .label _ => runT F τ nt fz G sp f dc k S
      | c => .leaf (.code c :: k) S))

section
variable {P : Program} [Globs P] {τ : Tab} {cx : Cx P} {Q : Exit → Act → World → Prop}

def AKm (P : Program) [Globs P] (cx : Cx P) (Q : Exit → Act → World → Prop) : Tree → Prop
  | .node b t f => (b = true → AKm P cx Q t) ∧ (b = false → AKm P cx Q f)
  | .need b t => b = true ∧ (b = true → AKm P cx Q t)
  | .leaf k S => AKp P cx Q (k, S)

inductive AKt (P : Program) [Globs P] (cx : Cx P) (Q : Exit → Act → World → Prop) : Tree → Prop where
  | node {b : Bool} {t f : Tree} (h1 : b = true → AKt P cx Q t) (h2 : b = false → AKt P cx Q f) : AKt P cx Q (.node b t f)
  | need {b : Bool} {t : Tree} (h1 : b = true) (h2 : b = true → AKt P cx Q t) : AKt P cx Q (.need b t)
  | leaf {k : List KI} {S : St} (h : AKp P cx Q (k, S)) : AKt P cx Q (.leaf k S)

theorem AKt.m {t : Tree} (h : AKt P cx Q t) : AKm P cx Q t := by
  induction h with
  | node h1 h2 i1 i2 => exact ⟨i1, i2⟩
  | need h1 h2 i2 => exact ⟨h1, i2⟩
  | leaf h => exact h

theorem AKt.have {t : Tree} (h : AKt P cx Q t) : AKt P cx Q (.need true t) := .need rfl fun _ => h
theorem AKt.tt {t f : Tree} (h : AKt P cx Q t) : AKt P cx Q (.node true t f) := .node (fun _ => h) (fun h => by cases h)
theorem AKt.ff {t f : Tree} (h : AKt P cx Q f) : AKt P cx Q (.node false t f) := .node (fun h => by cases h) (fun _ => h)
theorem AKt.yes {b : Bool} {t f : Tree} (hb : b = true) (h : AKt P cx Q t) : AKt P cx Q (.node b t f) := .node (fun _ => h) (fun h' => by rw [hb] at h'; cases h')
theorem AKt.no {b : Bool} {t f : Tree} (hb : b = false) (h : AKt P cx Q f) : AKt P cx Q (.node b t f) := .node (fun h' => by rw [hb] at h'; cases h') (fun _ => h)

theorem view_wp (hτ : TabOK P τ) {ι : Io} {S1 : St} {a : Act} {w : World} (H : Rel cx.X cx.L cx.w0 cx.nt ι S1 a w) {o : Oper} {z : AV} (h0 : cx.w0.fr ≤ S1.fr)
    (hv : viewO τ S1 o.op = some z) (hd : ∀ d, o.dst = some d → d < cx.nt) {K : Act → World → Prop} {Q' : Exit → Act → World → Prop}
    (hK : ∀ ι' a' w', Rel cx.X cx.L cx.w0 cx.nt ι' (S1.put o.dst z) a' w' → K a' w') : o.wp P a w K Q' := by
  unfold viewO at hv
  split at hv
  · rename_i t n parts ho
    split at hv
    · rename_i k' e es hbs
      obtain rfl := Option.some.inj hv
      have hop : effOp Ar.real τ S1 o.op = some (.row S1.fr k', S1.new (.ds e k' es)) := by
        rw [ho]
        exact bsView_op hbs S1
      obtain ⟨v, w', ι', hrun, H', hrep⟩ := effOp_run hτ H hop
      have hb : look S1.fr (S1.new (.ds e k' es)).h = some (.ds e k' es) := by simp [St.new, look_cons]
      have hview := H'.hr.view hb hrep
      have H2 := (H'.forget S1.fr).put hd (.d _ _ hview)
      have hne : K (a.put o.dst v) w' → o.wp P a w K Q' := by
        intro hk
        unfold Oper.wp
        rcases hrun with hrun | ⟨hrun, rfl⟩
        · rw [hrun]; exact hk
        · rw [hrun]; exact hk
      refine hne ?_
      have g1 : ∀ i x, look i (S1.put o.dst (.d (.view k' es))).t = some x → look i (St.put ⟨(S1.new (.ds e k' es)).t, del S1.fr (S1.new (.ds e k' es)).h, (S1.new (.ds e k' es)).fr⟩ o.dst (.d (.view k' es))).t = some x ∧ x.lt S1.fr = true := by
        intro i x hx
        refine ⟨?_, ?_⟩
        · rw [← hx]
          cases o.dst <;> rfl
        · cases hdst : o.dst with
          | none =>
            rw [hdst] at hx
            exact (H.tm i x hx).lt_of H.hr.fresh
          | some d =>
            rw [hdst] at hx
            simp only [St.put, look_cons, look_del] at hx
            split at hx
            · obtain rfl := Option.some.inj hx; rfl
            · split at hx
              · cases hx
              · exact (H.tm i x hx).lt_of H.hr.fresh
      have g2 : ∀ n B, look n S1.h = some B → look n (St.put ⟨(S1.new (.ds e k' es)).t, del S1.fr (S1.new (.ds e k' es)).h, (S1.new (.ds e k' es)).fr⟩ o.dst (.d (.view k' es))).h = some B ∧ n < S1.fr ∧ B.lt S1.fr = true := by
        intro n B hn
        obtain ⟨h4, h5⟩ := (H.hr.hp n B hn).lt_of H.hr.fresh
        refine ⟨?_, h4, h5⟩
        have e3 : (St.put ⟨(S1.new (.ds e k' es)).t, del S1.fr (S1.new (.ds e k' es)).h, (S1.new (.ds e k' es)).fr⟩ o.dst (.d (.view k' es))).h = del S1.fr (S1.new (.ds e k' es)).h := by cases o.dst <;> rfl
        rw [e3, look_del, if_neg (by omega)]
        simp only [St.new, look_cons]
        rw [if_neg (by omega)]
        exact hn
      obtain ⟨ι2, H3⟩ := H2.unname g1 g2 h0
      refine hK ι2 _ w' ?_
      have e2 : S1.put o.dst (.d (.view k' es)) = ⟨(S1.put o.dst (.d (.view k' es))).t, S1.h, S1.fr⟩ := by cases o.dst <;> rfl
      rw [e2]
      exact H3
    · cases hv
  · cases hv

theorem viewO_congr {S S' : St} {op : Op} (h : ∀ x, x ∈ op.operands.toList → evl S x = evl S' x) : viewO τ S op = viewO τ S' op := by
  cases op <;> simp only [viewO]
  case buildSlice t n parts =>
    simp only [Op.operands] at h
    rw [evps_congr fun p hp => h p.2 (by simp only [List.mem_map]; exact ⟨p, hp, rfl⟩)]

theorem callT_some {G : Tbl} (hG : TblOK P G) {S : St} {op : Op} {b : Bool} {z : AV} (h : callT G S op = some (b, z)) (hb : b = true) :
    ∃ c fo g fi ca args, op = .call c ∧ c.callee = .value fo ∧ fargs (evl S fo) = some (g, fi, ca) ∧ app3 fi (evls S c.args.toList) ca = args ∧ lts 0 args = true ∧ z.lt 0 = true ∧ ESpec P g args (fun y => y = z) := by
  unfold callT at h
  split at h
  · rename_i c
    split at h
    · rename_i fo hc
      split at h
      · rename_i g fi ca hf
        split at h
        · rename_i φ hφ
          split at h
          · rename_i b' x hx
            split at h
            · rename_i h1 h2
              simp only [Option.some.injEq, Prod.mk.injEq] at h
              obtain ⟨rfl, rfl⟩ := h
              exact ⟨c, fo, g, fi, ca, _, rfl, hc, hf, rfl, h1, h2, hG.get hφ _ _ _ hx hb⟩
            · cases h
          · cases h
        · cases h
      · cases h
    · cases h
  · cases h

theorem DK.viewO (hτ : TabOK P τ) {all r : List Oper} {id : Nat} {k : List KI} {S0 S : St} {o : Oper} {z : AV} (h0 : cx.w0.fr ≤ S.fr)
    (hv : viewO τ S o.op = some z) (hg : guardB all S o = some true) (hd : ∀ d, o.dst = some d → d < cx.nt)
    (next : DK P cx Q all id k S0 (r, S.put o.dst z)) : DK P cx Q all id k S0 (o :: r, S) := by
  unfold Ua.viewO at hv
  split at hv
  · rename_i t n parts ho
    split at hv
    · rename_i k' e es hbs
      obtain rfl := Option.some.inj hv
      exact DK.view hτ h0 ho hbs hg hd next
    · cases hv
  · cases hv

theorem DK.pure (hτ : TabOK P τ) {all r : List Oper} {id : Nat} {k : List KI} {S0 S : St} {o : Oper} {z : AV} (hz : pureOp Ar.real τ S o.op = some z) (hg : guardB all S o = some true)
    (hd : (match o.dst with
      | some d => Nat.blt d cx.nt
      | none => true) = true)
    (next : DK P cx Q all id k S0 (r, S.put o.dst z)) : DK P cx Q all id k S0 (o :: r, S) := by
  refine DK.snoc z (fun j hj => ?_) next
  intro Q' K ι S1 a w H h1 h2 h3 hK
  unfold wpOp
  rw [show all.toArray[j]? = some o by simpa using hj]
  simp only
  rw [guardB_spec H (by rw [guardB_congr h3]; exact hg), if_pos rfl]
  refine .inl (stepOp_wp hτ H ?_ hK)
  unfold stepOp
  rw [pureOp_looks h1 h3, hz]
  cases hdst : o.dst with
  | none => rfl
  | some d =>
    rw [hdst] at hd
    simp only at hd ⊢
    rw [hd]

theorem DK.skip {all r : List Oper} {id : Nat} {k : List KI} {S0 S : St} {o : Oper} (hg : guardB all S o = some false) (hd : ∀ d, o.dst = some d → d < cx.nt)
    (next : DK P cx Q all id k S0 (r, S.put o.dst (.tup []))) : DK P cx Q all id k S0 (o :: r, S) := by
  refine DK.snoc _ (fun j hj => ?_) next
  intro Q' K ι S1 a w H h1 h2 h3 hK
  unfold wpOp
  rw [show all.toArray[j]? = some o by simpa using hj]
  simp only
  rw [guardB_spec H (by rw [guardB_congr h3]; exact hg), if_neg (by simp)]
  exact hK ι _ w (H.put hd (.tup [] [] rfl (by simp)))

theorem DK.callT {G : Tbl} (hG : TblOK P G) {all r : List Oper} {id : Nat} {k : List KI} {S0 S : St} {o : Oper} {b : Bool} {z : AV} (hc : callT G S o.op = some (b, z)) (hb : b = true) (hg : guardB all S o = some true)
    (hd : ∀ d, o.dst = some d → d < cx.nt) (next : DK P cx Q all id k S0 (r, S.put o.dst z)) : DK P cx Q all id k S0 (o :: r, S) := by
  obtain ⟨c, fo, g, fi, ca, args, ho, hcal, hf, ha, hl, hz, sp⟩ := callT_some hG hc hb
  refine DK.call0 sp z ho hcal hg hd hf (by rw [ha, rens_lt0 _ _ hl]) hl ?_ next
  rintro x h' fr' ⟨rfl, rfl, rfl⟩
  exact ⟨ren_lt0 _ _ hz, rfl, rfl⟩

theorem lit_fr (S : St) (d : Nat) (b : Bool) : (S.lit d b).fr = S.fr := rfl

theorem runDT_ok (hτ : TabOK P τ) (hm : P.follows .mixedOrders = true) {G : Tbl} (hG : TblOK P G) {all : List Oper} {id : Nat} {k : List KI} {S0 : St} {st : Tree} {K : List Oper → List Nat → St → Tree}
    (hst : AKm P cx Q st → AK P cx Q (.code (.region id all.toArray true) :: k) S0) (hK : ∀ rest dc S, cx.w0.fr ≤ S.fr → AKm P cx Q (K rest dc S) → AK P cx Q (.ops all rest :: k) S) :
    ∀ (f j : Nat) (dc : List Nat) (r : List Oper) (S : St), cx.w0.fr ≤ S.fr → AKm P cx Q (runDT Fam.real τ cx.nt G all st K f j dc r S) → DK P cx Q all id k S0 (r, S)
  | 0, j, dc, r, S, h0, h => fun _ _ _ _ => hst (by unfold runDT at h; exact h)
  | f + 1, j, dc, [], S, h0, h => by
    unfold runDT at h
    split at h
    · rename_i hc
      exact DK.fin hm (by simpa using hc) (hK _ _ _ h0 h)
    · exact fun _ _ _ _ => hst h
  | f + 1, j, dc, o :: r, S, h0, h => by
    have ih := runDT_ok hτ hm hG hst hK f
    have hp : ∀ z, cx.w0.fr ≤ (S.put o.dst z).fr := fun z => by rw [put_fr]; exact h0
    have ask : ∀ (d : Nat) (b : Bool), look d S.t = some (.d (.s (.bool b))) → AKm P cx Q (.node b (runDT Fam.real τ cx.nt G all st K f j (d :: dc) (o :: r) (S.lit d true)) (runDT Fam.real τ cx.nt G all st K f j (d :: dc) (o :: r) (S.lit d false))) → DK P cx Q all id k S0 (o :: r, S) := by
      intro d b hl h
      cases b
      · have := ih _ _ _ _ (by rw [lit_fr]; exact h0) (h.2 rfl)
        rwa [lit_id hl] at this
      · have := ih _ _ _ _ (by rw [lit_fr]; exact h0) (h.1 rfl)
        rwa [lit_id hl] at this
    unfold runDT at h
    split at h
    · split at h
      · rename_i hc
        exact DK.fin hm hc (hK _ _ _ h0 h)
      · exact fun _ _ _ _ => hst h
    · split at h
      · rename_i d b hask
        exact ask d b (askG_look hask) h
      · split at h
        · rename_i hd hg
          split at h
          · rename_i d b hask
            exact ask d b (askP_look hask) h
          · split at h
            · rename_i b z hc
              exact DK.callT hG hc h.1 hg (dst_lt hd) (ih _ _ _ _ (hp _) (h.2 h.1))
            · split at h
              · rename_i b z hc
                exact DK.pure hτ (opT_pure hc h.1) hg hd (ih _ _ _ _ (hp _) (h.2 h.1))
              · split at h
                · rename_i z hv
                  exact DK.viewO hτ h0 hv hg (dst_lt hd) (ih _ _ _ _ (hp _) h)
                · split at h
                  · exact fun _ _ _ _ => hst h
                  · split at h
                    · rename_i z hz
                      exact DK.pure hτ hz hg hd (ih _ _ _ _ (hp _) h)
                    · exact fun _ _ _ _ => hst h
        · rename_i hd hg
          exact DK.skip hg (dst_lt hd) (ih _ _ _ _ (hp _) h)
        · exact fun _ _ _ _ => hst h

theorem stepOp_pure {S : St} {nt : Nat} {o : Oper} {z : AV} (hz : pureOp Ar.real τ S o.op = some z) (hd : (match o.dst with
      | some d => Nat.blt d nt
      | none => true) = true) : stepOp Ar.real τ nt S o = some (S.put o.dst z) := by
  unfold stepOp
  rw [hz]
  cases hdst : o.dst with
  | none => rfl
  | some d =>
    rw [hdst] at hd
    simp only at hd ⊢
    rw [hd]

theorem stepOp_eff {S S' : St} {nt : Nat} {o : Oper} {z : AV} (hz : pureOp Ar.real τ S o.op = none) (he : effOp Ar.real τ S o.op = some (z, S')) (hd : (match o.dst with
      | some d => Nat.blt d nt
      | none => true) = true) : stepOp Ar.real τ nt S o = some (S'.put o.dst z) := by
  unfold stepOp
  rw [hz, he]
  cases hdst : o.dst with
  | none => rfl
  | some d =>
    rw [hdst] at hd
    simp only at hd ⊢
    rw [hd]

theorem AK.stepT (hτ : TabOK P τ) (hm : P.follows .mixedOrders = true) (h0 : cx.w0.fr = 0) {G : Tbl} (hG : TblOK P G) (fz : Bool) (sp : List Nat) : ∀ (f : Nat) (dc : List Nat) (k : List KI) (S : St), AKm P cx Q (runT Fam.real τ cx.nt fz G sp f dc k S) → AK P cx Q k S := by
  intro f
  induction f with
  | zero => intro dc k S h; exact h
  | succ f ih =>
    intro dc k S h
    unfold runT at h
    split at h
    · exact h
    · exact h
    · rename_i id k
      have := ih _ _ _ h
      intro ι a w H
      exact this ι a w H
    · rename_i all k
      have := ih _ _ _ h
      intro ι a w H
      exact this ι a w H
    · rename_i all o r k
      have ask : ∀ (d : Nat) (b : Bool), look d S.t = some (.d (.s (.bool b))) → AKm P cx Q (.node b (runT Fam.real τ cx.nt fz G sp f (d :: dc) (.ops all (o :: r) :: k) (S.lit d true)) (runT Fam.real τ cx.nt fz G sp f (d :: dc) (.ops all (o :: r) :: k) (S.lit d false))) → AK P cx Q (.ops all (o :: r) :: k) S := by
        intro d b hl h
        cases b
        · have := ih _ _ _ (h.2 rfl)
          rwa [lit_id hl] at this
        · have := ih _ _ _ (h.1 rfl)
          rwa [lit_id hl] at this
      have step : ∀ {S' : St}, stepOp Ar.real τ cx.nt S o = some S' → guardB all S o = some true → AK P cx Q (.ops all r :: k) S' → AK P cx Q (.ops all (o :: r) :: k) S := by
        intro S' hS hg this ι a w H
        show wpList P all.toArray (den P cx Q k) (o :: r) a w
        unfold wpList
        rw [guardB_spec H hg, if_pos rfl]
        exact .inl (stepOp_wp hτ H hS fun ι' a' w' H' => this ι' a' w' H')
      split at h
      · rename_i d b hask
        exact ask d b (askG_look hask) h
      · split at h
        · rename_i hd hg
          split at h
          · rename_i d b hask
            exact ask d b (askP_look hask) h
          · split at h
            · rename_i b z hc
              obtain ⟨c, fo, g, fi, ca, args, ho, hcal, hf, ha, hl, hz, sp⟩ := callT_some hG hc h.1
              have := ih _ _ _ (h.2 h.1)
              refine AK.call0 sp ho hcal hg (dst_lt hd) hf (by rw [ha, rens_lt0 _ _ hl]) hl ?_
              rintro x h' fr' ⟨rfl, rfl, rfl⟩
              rw [ren_lt0 _ _ hz]
              exact this
            · split at h
              · rename_i b z hc
                exact step (stepOp_pure (opT_pure hc h.1) hd) hg (ih _ _ _ (h.2 h.1))
              · split at h
                · rename_i b z S' hc
                  obtain ⟨h1, h2⟩ := opE_ok hc h.1
                  exact step (stepOp_eff h2 h1 hd) hg (ih _ _ _ (h.2 h.1))
                · split at h
                  · rename_i z hv
                    have hv : viewO τ S o.op = some z := by
                      split at hv
                      · exact hv
                      · cases hv
                    have := ih _ _ _ h
                    intro ι a w H
                    show wpList P all.toArray (den P cx Q k) (o :: r) a w
                    unfold wpList
                    rw [guardB_spec H hg, if_pos rfl]
                    exact .inl (view_wp hτ H (by omega) hv (dst_lt hd) fun ι' a' w' H' => this ι' a' w' H')
                  · split at h
                    · exact h
                    · split at h
                      · rename_i S' hS
                        exact step hS hg (ih _ _ _ h)
                      · exact h
        · rename_i hd hg
          have := ih _ _ _ h
          intro ι a w H
          show wpList P all.toArray (den P cx Q k) (o :: r) a w
          unfold wpList
          rw [guardB_spec H hg, if_neg (by simp)]
          refine this ι _ w (H.put (fun n hn => ?_) ?_)
          · rw [hn] at hd
            exact blt_lt hd
          · exact .tup [] [] rfl (by simp)
        · exact h
    · rename_i c k
      split at h
      · have := ih _ _ _ h
        intro ι a w H
        exact wp_skip (this ι a w H)
      · rename_i x y
        have := ih _ _ _ h
        intro ι a w H
        exact den_seq (this ι a w H)
      · rename_i id x
        have := ih _ _ _ h
        intro ι a w H
        exact wp_block (this ι a w H)
      · rename_i id
        split at h
        · rename_i k' hk
          have := ih _ _ _ h
          intro ι a w H
          exact wp_exit (den_exit id k k' hk a w (this ι a w H))
        · exact h
      · rename_i c x y
        have cond : ∀ b : Bool, evl S c = .d (.s (.bool b)) → (b = true → AK P cx Q (.code x :: k) S) → (b = false → AK P cx Q (.code y :: k) S) → AK P cx Q (.code (.cond c x y) :: k) S := by
          intro b hc h1 h2 ι a w H
          have he := H.evl c
          rw [hc] at he
          cases b
          · exact wp_cond (rep_s he) (h2 rfl ι a w H)
          · exact wp_cond (rep_s he) (h1 rfl ι a w H)
        split at h
        · rename_i d b hask
          have hl := askX_look hask
          have hc : evl S c = .d (.s (.bool b)) := by
            unfold askX at hask
            split at hask
            · rename_i d'
              split at hask
              · cases hask
              · split at hask
                · rename_i b' hl'
                  simp only [Option.some.injEq, Prod.mk.injEq] at hask
                  obtain ⟨rfl, rfl⟩ := hask
                  simp only [evl, hl']
                · cases hask
            · cases hask
          refine cond b hc (fun hb => ?_) (fun hb => ?_)
          · subst hb
            have := ih _ _ _ (h.1 rfl)
            rwa [lit_id hl] at this
          · subst hb
            have := ih _ _ _ (h.2 rfl)
            rwa [lit_id hl] at this
        · split at h
          · rename_i b hc
            refine cond b hc (fun hb => ?_) (fun hb => ?_)
            · subst hb; exact ih _ _ _ h
            · subst hb; exact ih _ _ _ h
          · exact h
      · rename_i id ops dr
        split at h
        · exact h
        split at h
        · have := ih _ _ _ h
          intro ι a w H
          refine wp_region_list ?_
          have := this ι a w H
          simpa [den, Exit.then] using this
        · have := runDT_ok (P := P) (cx := cx) (Q := Q) (id := id) (k := k) (S0 := S) (all := ops.toList) (st := .leaf (.code (.region id ops true) :: k) S) hτ hm hG (fun h => h) (fun rest dc S _ h => ih dc _ S h) _ _ _ _ _ (by omega) h
          exact AKp.drawn this
      · rename_i l
        have := ih _ _ _ h
        intro ι a w H
        exact wp_label (this ι a w H)
      · exact h

/-- What goes by itself, as a tree. -/
theorem AK.runT {F : Fam} (hF : F = Fam.real) (hτ : TabOK P τ) (hm : P.follows .mixedOrders = true) {n : Nat} (hn : cx.nt = n) (h0 : cx.w0.fr = 0) (fz : Bool) (G : Tbl) (hG : TblOK P G) {k : List KI} {S : St}
    (h : AKt P cx Q (runT F τ n fz G [] 100000 [] k S)) : AK P cx Q k S := by
  subst hF
  subst hn
  exact AK.stepT hτ hm h0 hG fz _ _ _ k S h.m
/-- The same, stopping ahead of some regions. -/
theorem AK.runTs {F : Fam} (hF : F = Fam.real) (hτ : TabOK P τ) (hm : P.follows .mixedOrders = true) {n : Nat} (hn : cx.nt = n) (h0 : cx.w0.fr = 0) (sp : List Nat) (fz : Bool) (G : Tbl) (hG : TblOK P G) {k : List KI} {S : St}
    (h : AKt P cx Q (Ua.runT F τ n fz G sp 100000 [] k S)) : AK P cx Q k S := by
  subst hF
  subst hn
  exact AK.stepT hτ hm h0 hG fz _ _ _ k S h.m

/-- A loop whose round is a tree. -/
theorem AKl.invT {F : Fam} (hF : F = Fam.real) (hτ : TabOK P τ) (hm : P.follows .mixedOrders = true) {nn : Nat} (hn : cx.nt = nn) {c : Code} {k : List KI} {S : St} {K : List (Nat × AV)} (h0 : cx.w0.fr = 0) (fz : Bool) (G : Tbl) (hG : TblOK P G)
    (I : Nat → List (Nat × AV) → List (Nat × Blk) → Prop) (n : Nat) {vs : List (Nat × AV)} {hs : List (Nat × Blk)}
    (hI : I n vs hs) (h1 : leT0 S.fr S.t (appT vs K)) (h2 : leH0 S.fr S.h hs)
    (round : ∀ (J : St → Prop) n vs hs, (∀ m vs hs, m < n → I m vs hs → J ⟨appT vs K, hs, S.fr⟩) → I n vs hs → AKt P cx Q (Ua.runT F τ nn fz G [] 100000 [] (.code c :: .back J :: k) ⟨appT vs K, hs, S.fr⟩)) : AKl P cx Q c k S K := by
  intro hK
  refine AKp.loop (I := fun n S' => ∃ vs hs, I n vs hs ∧ S' = ⟨appT vs K, hs, S.fr⟩) ⟨appT vs K, hs, S.fr⟩ h0 h1 h2 n ⟨vs, hs, hI, rfl⟩ ?_
  rintro n S' ⟨vs, hs, hI, rfl⟩
  refine AK.runT hF hτ hm hn h0 fz G hG (round _ n vs hs ?_ hI)
  intro m vs hs hm hI
  exact ⟨m, hm, vs, hs, hI, rfl⟩
end
end Go.Ua

/-! ### What is reckoned, as it is -/
namespace Go.Ua
open Go Go.Proofs
theorem f_ltI (a b : Int) : Fam.real .ltI a b = decide (a < b) := rfl
theorem f_leI (a b : Int) : Fam.real .leI a b = decide (a ≤ b) := rfl
theorem f_eqI (a b : Int) : Fam.real .eqI a b = (a == b) := rfl
theorem f_eqS (a b : List UInt8) : Fam.real .eqS a b = (a == b) := rfl
theorem f_eqB (a b : Bool) : Fam.real .eqB a b = (a == b) := rfl
theorem f_not (a : Bool) : Fam.real .not a = !a := rfl
theorem f_andB (a b : Bool) : Fam.real .andB a b = (a && b) := rfl
theorem f_orB (a b : Bool) : Fam.real .orB a b = (a || b) := rfl
theorem f_lenS (a : List UInt8) : Fam.real .lenS a = (a.length : Int) := rfl
theorem f_lenD (a : List Dat) : Fam.real .lenD a = (a.length : Int) := rfl
theorem f_hasS (l : List UInt8) (n : Int) : Fam.real .hasS l n = (decide (0 ≤ n) && decide (n < (l.length : Int))) := rfl
theorem f_atS (l : List UInt8) (n : Int) : Fam.real .atS l n = ((l.getD n.toNat 0).toNat : Int) := rfl
theorem f_hasC (l : List UInt8) (i j : Int) : Fam.real .hasC l i j = (decide (0 ≤ i) && (decide (i ≤ j) && decide (j ≤ (l.length : Int)))) := rfl
theorem f_subS (l : List UInt8) (i j : Int) : Fam.real .subS l i j = (l.take j.toNat).drop i.toNat := rfl
theorem f_hasCat (a b : List UInt8) : Fam.real .hasCat a b = decide (a.length + b.length ≤ 9223372036854775807) := rfl
theorem f_app (a b : List UInt8) : Fam.real .app a b = a ++ b := rfl
theorem f_wrap (k : IntKind) (a : Int) : Fam.real .wrap k a = k.wrap a := rfl
theorem f_add (a b : Int) : Fam.real .add a b = a + b := rfl
theorem f_sub (a b : Int) : Fam.real .sub a b = a - b := rfl
theorem f_mul (a b : Int) : Fam.real .mul a b = a * b := rfl
theorem f_appD (a b : List Dat) : Fam.real .appD a b = a ++ b := rfl
theorem f_fits (n : Nat) (a : List Dat) : Fam.real .fits n a = decide (a.length * n ≤ 70368744177664) := rfl
theorem f_hasV (l : List Dat) (i j : Int) : Fam.real .hasV l i j = (decide (0 ≤ i) && (decide (i ≤ j) && decide (j ≤ (l.length : Int)))) := rfl
theorem f_subV (l : List Dat) (i j : Int) : Fam.real .subV l i j = (l.take j.toNat).drop i.toNat := rfl
theorem f_ofStr (l : List Dat) : Fam.real .ofStr l = (strOf l).getD [] := rfl
theorem f_hasStr (l : List Dat) : Fam.real .hasStr l = (strOf l).isSome := rfl

section
variable {F : Fam} (hF : F = Fam.real)
include hF
theorem t_hasS {s : List UInt8} {i : Nat} {iv : Int} (h : i < s.length) (hi : iv = i) : F .hasS s iv = true := by
  subst hF; subst hi
  rw [f_hasS, decide_eq_true (by omega), decide_eq_true (by omega)]; rfl
theorem t_atS {s : List UInt8} {i : Nat} {c : UInt8} {iv : Int} (h : s[i]? = some c) (hi : iv = i) : F .atS s iv = (c.toNat : Int) := by
  subst hF; subst hi
  rw [f_atS, Int.toNat_natCast, List.getD_eq_getElem?_getD, h]; rfl
theorem t_hasC {s : List UInt8} {i j : Nat} {iv jv : Int} (hi : iv = i) (hj : jv = j) (h1 : i ≤ j) (h2 : j ≤ s.length) : F .hasC s iv jv = true := by
  subst hF; subst hi; subst hj
  rw [f_hasC, decide_eq_true (by omega), decide_eq_true (by omega), decide_eq_true (by omega)]; rfl
theorem t_subS {s : List UInt8} {i j : Nat} {iv jv : Int} (hi : iv = i) (hj : jv = j) : F .subS s iv jv = (s.take j).drop i := by
  subst hF; subst hi; subst hj; rfl
theorem t_hasV {s : List Dat} {i j : Nat} {iv jv : Int} (hi : iv = i) (hj : jv = j) (h1 : i ≤ j) (h2 : j ≤ s.length) : F .hasV s iv jv = true := by
  subst hF; subst hi; subst hj
  rw [f_hasV, decide_eq_true (by omega), decide_eq_true (by omega), decide_eq_true (by omega)]; rfl
theorem t_subV {s : List Dat} {i j : Nat} {iv jv : Int} (hi : iv = i) (hj : jv = j) : F .subV s iv jv = (s.take j).drop i := by
  subst hF; subst hi; subst hj; rfl
theorem t_hasCat {a b : List UInt8} (h : a.length + b.length ≤ 9223372036854775807) : F .hasCat a b = true := by
  subst hF; exact decide_eq_true h
theorem t_hasD {es : List Dat} {i : Nat} {d : Dat} {iv : Int} {sk : List SK} (h : es[i]? = some d) (hi : iv = i) (hs : sksOK sk d.cells = true) : F .hasD es iv sk = true := by
  subst hF; subst hi
  show (match getI es (i : Int) with | some d => sksOK sk d.cells | none => false) = true
  rw [show getI es (i : Int) = some d by simp [getI, h]]
  exact hs
omit hF in
theorem t_cell {es : List Dat} {i j : Nat} {d c : Dat} {iv : Int} (h : es[i]? = some d) (hi : iv = i) (hc : d.cells[j]? = some c) : ((es.getD iv.toNat (.agg [])).cells).getD j (.agg []) = c := by
  subst hi
  have e : es.getD i (.agg []) = d := by rw [List.getD_eq_getElem?_getD, h]; rfl
  rw [Int.toNat_natCast, e, List.getD_eq_getElem?_getD, hc]; rfl
theorem t_strA {es : List Dat} {i j : Nat} {d : Dat} {s : List UInt8} {iv : Int} (h : es[i]? = some d) (hi : iv = i) (hc : d.cells[j]? = some (.s (.str s))) : F .strA es iv j = s := by
  subst hF
  show (match ((es.getD iv.toNat (.agg [])).cells).getD j (.agg []) with | .s (.str s) => s | _ => []) = s
  rw [t_cell h hi hc]
theorem t_boolA {es : List Dat} {i j : Nat} {d : Dat} {s : Bool} {iv : Int} (h : es[i]? = some d) (hi : iv = i) (hc : d.cells[j]? = some (.s (.bool s))) : F .boolA es iv j = s := by
  subst hF
  show (match ((es.getD iv.toNat (.agg [])).cells).getD j (.agg []) with | .s (.bool s) => s | _ => false) = s
  rw [t_cell h hi hc]
theorem t_intA {es : List Dat} {i j : Nat} {d : Dat} {k : IntKind} {s : Int} {iv : Int} (h : es[i]? = some d) (hi : iv = i) (hc : d.cells[j]? = some (.s (.int k s))) : F .intA es iv j = s := by
  subst hF
  show (match ((es.getD iv.toNat (.agg [])).cells).getD j (.agg []) with | .s (.int _ s) => s | _ => 0) = s
  rw [t_cell h hi hc]
theorem t_viewA {es : List Dat} {i j k : Nat} {d : Dat} {s : List Dat} {iv : Int} (h : es[i]? = some d) (hi : iv = i) (hc : d.cells[j]? = some (.view k s)) : F .viewA es iv j = s := by
  subst hF
  show (match ((es.getD iv.toNat (.agg [])).cells).getD j (.agg []) with | .view _ s => s | _ => []) = s
  rw [t_cell h hi hc]
theorem t_str0 {zs : List (List UInt8)} {i : Nat} {s : List UInt8} {iv : Int} (h : zs[i]? = some s) (hi : iv = i) : F .strA (strDs zs) iv 0 = s :=
  t_strA hF (i := i) (d := .s (.str s)) (by simp [strDs, h]) hi rfl
theorem t_hasStrs {zs : List (List UInt8)} {i : Nat} {iv : Int} (h : i < zs.length) (hi : iv = i) : F .hasD (strDs zs) iv [.str] = true :=
  t_hasD hF (i := i) (d := .s (.str zs[i])) (by simp [strDs, h]) hi rfl
end
end Go.Ua
namespace Go.Ua
open Go Go.Proofs
theorem ESpec.ok {P : Program} [Globs P] {f : FuncId} {args : List AV} {post : AV → Prop} (he : Enters P f) (h : AVoks args → ESpec P f args post) : ESpec P f args post :=
  ⟨he, fun X L w ι vs h1 hg h2 h3 => (h (avoks_of h2 h3)).2 X L w ι vs h1 hg h2 h3⟩
theorem u8_of {n : Int} (h : (Sc.int .u8 n).ok) : ((UInt8.ofNat n.toNat).toNat : Int) = n := by
  have h1 : 0 ≤ n := h.1
  have h2 : n ≤ 255 := h.2
  rw [UInt8.toNat_ofNat']
  omega
/-- The texts of a list. -/
def unStr (es : List Dat) : List (List UInt8) := es.map fun d => match d with
  | .s (.str s) => s
  | _ => []
def isStrs (es : List Dat) : Bool := es.all fun d => match d with
  | .s (.str _) => true
  | _ => false
theorem unStr_strDs (l : List (List UInt8)) : unStr (strDs l) = l := by
  unfold unStr strDs
  rw [List.map_map]
  induction l with
  | nil => rfl
  | cons x r ih => simp [ih]
theorem isStrs_strDs (l : List (List UInt8)) : isStrs (strDs l) = true := by
  unfold isStrs strDs
  rw [List.all_map]
  exact List.all_eq_true.2 fun x _ => rfl
theorem strDs_unStr : ∀ {es : List Dat}, isStrs es = true → strDs (unStr es) = es
  | [], _ => rfl
  | d :: es, h => by
    unfold isStrs at h
    simp only [List.all_cons, Bool.and_eq_true] at h
    have ih := strDs_unStr (es := es) h.2
    have hd := h.1
    split at hd
    · show Dat.s (.str _) :: strDs (unStr es) = _
      rw [ih]
    · cases hd
theorem strDs_length (l : List (List UInt8)) : (strDs l).length = l.length := by simp [strDs]
theorem strDs_take (l : List (List UInt8)) (n : Nat) : (strDs l).take n = strDs (l.take n) := by simp [strDs, List.map_take]
theorem strDs_drop (l : List (List UInt8)) (n : Nat) : (strDs l).drop n = strDs (l.drop n) := by simp [strDs, List.map_drop]
theorem strDs_append (a b : List (List UInt8)) : strDs a ++ strDs b = strDs (a ++ b) := by simp [strDs]
theorem strDs_inj {a b : List (List UInt8)} (h : strDs a = strDs b) : a = b := by rw [← unStr_strDs a, h, unStr_strDs]
theorem avb {a b : Bool} (h : a = b) : AV.d (.s (.bool a)) = AV.d (.s (.bool b)) := by rw [h]
theorem t_fits {F : Fam} (hF : F = Fam.real) {n : Nat} {es : List Dat} (h : es.length * n ≤ 70368744177664) : F .fits n es = true := by
  subst hF; exact decide_eq_true h
theorem t_app {F : Fam} (hF : F = Fam.real) (a b : List UInt8) : F .app a b = a ++ b := by subst hF; rfl
theorem t_appD {F : Fam} (hF : F = Fam.real) (a b : List Dat) : F .appD a b = a ++ b := by subst hF; rfl
end Go.Ua
namespace Go.Ua
open Go Go.Proofs
theorem t_strG {F : Fam} (hF : F = Fam.real) (ws : List (List UInt8)) (n : Nat) : F .strA (strDs ws) (n : Int) 0 = ws.getD n [] := by
  subst hF
  show (match (((strDs ws).getD (n : Int).toNat (.agg [])).cells).getD 0 (.agg []) with | .s (.str s) => s | _ => []) = _
  have e1 : (strDs ws).getD n (.agg []) = ((ws[n]?).map fun s => Dat.s (.str s)).getD (.agg []) := by rw [List.getD_eq_getElem?_getD]; unfold strDs; rw [List.getElem?_map]
  have e2 : ws.getD n [] = (ws[n]?).getD [] := List.getD_eq_getElem?_getD ..
  rw [Int.toNat_natCast, e1, e2]
  cases ws[n]? <;> rfl
theorem t_hasG {F : Fam} (hF : F = Fam.real) {ws : List (List UInt8)} {n : Nat} (h : n < ws.length) : F .hasD (strDs ws) (n : Int) [.str] = true := t_hasStrs hF h rfl
end Go.Ua
namespace Go.Ua
open Go Go.Proofs
section
variable {P : Program} [Globs P] {τ : Tab} {cx : Cx P} {Q : Exit → Act → World → Prop}
theorem exK {p : Prop} (K0 : List KI) (h : ∀ K, K = K0 → p) : p := h K0 rfl
/-- Many paths come together: what follows is looked at once. -/
theorem AKp.join {K k : List KI} (hK : K = k) {S : St} (S' : St) (h0 : cx.w0.fr = 0) (h1 : leT0 S'.fr S.t S'.t) (h2 : leH0 S'.fr S.h S'.h) (h : AK P cx Q K S') : AKp P cx Q (k, S) := by
  subst hK
  exact AK.keep S' h0 h1 h2 h
end
end Go.Ua
