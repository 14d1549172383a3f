/- The library of this claim and its walks, part 19, joined out of smaller texts. No statement stands in it. -/
import Derived.Test.YtpmpajodihpkaaaGreatDoorUaM18
set_option linter.unusedSectionVars false
set_option linter.unusedSimpArgs false
set_option linter.unusedVariables false
namespace Go.Ua
open Go Go.Proofs
inductive TE where
 | p (φ : List AV → Option (Bool × AV))
 | m (φ : Nat → List AV → List (Nat × Blk) → Option (Bool × AV × List (Nat × Blk) × Nat))
abbrev Tbl := List (Nat × TE)
def SpOK (P : Program) [Globs P] (g : FuncId) (φ : List AV → Option (Bool × AV)) : Prop := ∀ xs b x, φ xs = some (b, x) → b = true → ESpec P g xs (fun y => y = x)
def MSpOK (P : Program) [Globs P] (g : FuncId) (φ : Nat → List AV → List (Nat × Blk) → Option (Bool × AV × List (Nat × Blk) × Nat)) : Prop :=
 ∀ fr xs h b x h' fr', φ fr xs h = some (b, x, h', fr') → b = true → ASpec P g xs h fr (fun y h1 fr1 => y = x ∧ h1 = h' ∧ fr1 = fr')
def TE.ok (P : Program) [Globs P] (g : FuncId) : TE → Prop
 | .p φ => SpOK P g φ
 | .m φ => MSpOK P g φ
def TblOK (P : Program) [Globs P] : Tbl → Prop
 | [] => True
 | p :: r => p.2.ok P p.1 ∧ TblOK P r
theorem TblOK.get {P : Program} [Globs P] {g : Nat} {φ : TE} : ∀ {G : Tbl}, TblOK P G → look g G = some φ → φ.ok P g
 | [], _, h => by simp [look] at h
 | p :: r, H, h => by
   rw [look_cons] at h
   split at h
   · rename_i e
     obtain rfl := Option.some.inj h
     subst e
     exact H.1
   · exact H.2.get h
inductive Tree where
 | node (b : Bool) (t f : Tree)
 | need (b : Bool) (t : Tree)
 | leaf (k : List KI) (S : St)
def shFold (f : TypeId → Option (List SK)) : List (Nat × TypeId) → Option (List SK)
 | [] => some []
 | p :: r => (match f p.2, shFold f r with
   | some a, some b => some (a ++ b)
   | _, _ => none)
def shapeOf (τ : Tab) : Nat → TypeId → Option (List SK)
 | 0, _ => none
 | n + 1, t => (match kindOf τ t with
   | .string => some [.str]
   | .bool => some [.bool]
   | .int k => some [.int k]
   | .slice e => some [.view (sizeAt τ e)]
   | .struct fs => shFold (shapeOf τ n) fs
   | _ => none)
def cellF (F : Fam) (es : List Dat) (n : Int) (j : Nat) : SK → Dat
 | .str => .s (.str (F .strA es n j))
 | .bool => .s (.bool (F .boolA es n j))
 | .int k => .s (.int k (F .intA es n j))
 | .view k => .view k (F .viewA es n j)
def cellsF (F : Fam) (es : List Dat) (n : Int) : Nat → List SK → List Dat
 | _, [] => []
 | j, s :: r => cellF F es n j s :: cellsF F es n (j + 1) r
def litX (dc : List Nat) : Operand → Bool
 | .tmp s => memN s dc
 | .const (.bool _) => true
 | _ => false
def opT0 (F : Fam) (τ : Tab) (dc : List Nat) (S : St) : Op → Option (Bool × AV)
 | .index t x i => (match kindOf τ t, evl S x, evl S i with
   | .string, .d (.s (.str l)), .d (.s (.int _ n)) => some (F .hasS l n, .d (.s (.int .u8 (F .atS l n))))
   | _, _, _ => none)
 | .slice t x lo hi none => (match kindOf τ t, evl S x with
   | .string, .d (.s (.str l)) => (match bnd (omap S lo) 0, bnd (omap S hi) (F .lenS l) with
     | some i, some j => some (F .hasC l i j, .d (.s (.str (F .subS l i j))))
     | _, _ => none)
   | .slice e, .d (.view k es) => (match sizeAt τ e with
     | 0 => none
     | s + 1 => (match Nat.beq k (s + 1), bnd (omap S lo) 0, bnd (omap S hi) (F .lenD es) with
       | true, some i, some j => some (F .hasV es i j, .d (.view k (F .subV es i j)))
       | _, _, _ => none))
   | _, _ => none)
 | .binOp .add _ x y _ => (match evl S x, evl S y with
   | .d (.s (.str a)), .d (.s (.str b)) => some (F .hasCat a b, .d (.s (.str (F .app a b))))
   | _, _ => none)
 | .indexAddr t x i => (match kindOf τ t, evl S x, evl S i with
   | .slice e, .d (.view k es), .d (.s (.int _ n)) => (match sizeAt τ e, shapeOf τ 6 e with
     | s + 1, some sk => (match Nat.beq k (s + 1) with
       | true => some (F .hasD es n sk, .d (.vref (cellsF F es n 0 sk)))
       | false => none)
     | _, _ => none)
   | _, _, _ => none)
 | .convert s d x => (match kindOf τ s, kindOf τ d, evl S x with
   | .slice e, .string, .d (.view k es) => (match kindOf τ e, Nat.beq k 1 with
     | .int .u8, true => some (F .hasStr es, .d (.s (.str (F .ofStr es))))
     | _, _ => none)
   | _, _, _ => none)
 | .unOp .not _ x => (match litX dc x, evl S x with
   | true, .d (.s (.bool b)) => (match b with
     | true => some (true, .d (.s (.bool false)))
     | false => some (true, .d (.s (.bool true))))
   | _, _ => none)
 | _ => none
theorem sks_cells (es : List Dat) (n : Int) (d : Dat) (h : es.getD n.toNat (.agg []) = d) : ∀ (sk : List SK) (j : Nat) (cs : List Dat), d.cells.drop j = cs → sksOK sk cs = true → cs = cellsF Fam.real es n j sk
 | [], j, [], _, _ => rfl
 | [], j, c :: cs, _, h2 => by simp [sksOK] at h2
 | s :: sk, j, [], _, h2 => by simp [sksOK] at h2
 | s :: sk, j, c :: cs, h1, h2 => by
   simp only [sksOK, Bool.and_eq_true] at h2
   have hj : d.cells[j]? = some c := by
     have := congrArg (·[0]?) h1
     simpa using this
   have hg : ((es.getD n.toNat (.agg [])).cells).getD j (.agg []) = c := by rw [h, List.getD_eq_getElem?_getD, hj]; rfl
   have ht : d.cells.drop (j + 1) = cs := by
     have := congrArg List.tail h1
     simpa using this
   have ih := sks_cells es n d h sk (j + 1) cs ht h2.2
   have hc : c = cellF Fam.real es n j s := by
     have h3 := h2.1
     unfold skOK at h3
     split at h3
     · show _ = Dat.s (.str (match ((es.getD n.toNat (.agg [])).cells).getD j (.agg []) with | .s (.str s) => s | _ => []))
       rw [hg]
     · show _ = Dat.s (.bool (match ((es.getD n.toNat (.agg [])).cells).getD j (.agg []) with | .s (.bool s) => s | _ => false))
       rw [hg]
     · rename_i k k' m
       obtain rfl := of_decide_eq_true h3
       show _ = Dat.s (.int k (match ((es.getD n.toNat (.agg [])).cells).getD j (.agg []) with | .s (.int _ s) => s | _ => 0))
       rw [hg]
     · rename_i k k' m
       obtain rfl := Nat.eq_of_beq_eq_true h3
       show _ = Dat.view k (match ((es.getD n.toNat (.agg [])).cells).getD j (.agg []) with | .view _ s => s | _ => [])
       rw [hg]
     · cases h3
   rw [cellsF, ← hc, ← ih]
theorem hasD_some {es : List Dat} {n : Int} {sk : List SK} (h : Fam.real .hasD es n sk = true) : ∃ d, Ar.real.getD es n = some d ∧ d.cells = cellsF Fam.real es n 0 sk := by
 have h : (match getI es n with | some d => sksOK sk d.cells | none => false) = true := h
 split at h
 · rename_i d hd
   refine ⟨d, hd, ?_⟩
   obtain ⟨_, _, h3⟩ := getI_some hd
   exact sks_cells es n d (by rw [List.getD_eq_getElem?_getD, h3]; rfl) sk 0 d.cells (by simp) h
 · cases h
theorem opT0_pure {τ : Tab} {dc : List Nat} {S : St} {op : Op} {b : Bool} {z : AV} (h : opT0 Fam.real τ dc S op = some (b, z)) (hb : b = true) : pureOp Ar.real τ S op = some z := by
 unfold opT0 at h
 split at h
 · rename_i t x i
   split at h
   · rename_i l k n hk hx hi
     simp only [Option.some.injEq, Prod.mk.injEq] at h
     obtain ⟨rfl, rfl⟩ := h
     have hb : (decide (0 ≤ n) && decide (n < (l.length : Int))) = true := hb
     simp only [Bool.and_eq_true, decide_eq_true_eq] at hb
     simp only [pureOp, indexAV, hk, hx, hi]
     have : Ar.real.getS l n = some (Fam.real .atS l n) := by
       show (getI l n).map (fun b => (b.toNat : Int)) = some (((l.getD n.toNat 0).toNat : Nat) : Int)
       unfold getI
       rw [if_pos hb.1, List.getElem?_eq_getElem (by omega), List.getD_eq_getElem?_getD, List.getElem?_eq_getElem (by omega)]
       rfl
     rw [this]
   · cases h
 · rename_i t x lo hi
   split at h
   · rename_i l hk hx
     split at h
     · rename_i i j hlo hhi
       simp only [Option.some.injEq, Prod.mk.injEq] at h
       obtain ⟨rfl, rfl⟩ := h
       have hb : (decide (0 ≤ i) && (decide (i ≤ j) && decide (j ≤ (l.length : Int)))) = true := hb
       simp only [Bool.and_eq_true, decide_eq_true_eq] at hb
       simp only [pureOp, hx, sliceAV, hk, show omap S none = none from rfl]
       have e1 : bnd (omap S hi) (Ar.real.lenS l) = some j := hhi
       rw [hlo, e1]
       have : Ar.real.cutS l i j = some (Fam.real .subS l i j) := by
         show cutI l i j = _
         unfold cutI
         rw [if_pos ⟨hb.1, hb.2.1, hb.2.2⟩]
         rfl
       simp only [this]
     · cases h
   · rename_i e k es hk hx
     split at h
     · cases h
     · rename_i s hs
       split at h
       · rename_i i j hks hlo hhi
         simp only [Option.some.injEq, Prod.mk.injEq] at h
         obtain ⟨rfl, rfl⟩ := h
         have hb : (decide (0 ≤ i) && (decide (i ≤ j) && decide (j ≤ (es.length : Int)))) = true := hb
         simp only [Bool.and_eq_true, decide_eq_true_eq] at hb
         simp only [pureOp, hx, sliceAV, hk, show omap S none = none from rfl, hs]
         have e1 : bnd (omap S hi) (Ar.real.lenD es) = some j := hhi
         rw [if_pos (Nat.eq_of_beq_eq_true hks), hlo, e1]
         have : Ar.real.cutD es i j = some (Fam.real .subV es i j) := by
           show cutI es i j = _
           unfold cutI
           rw [if_pos ⟨hb.1, hb.2.1, hb.2.2⟩]
           rfl
         simp only [this]
       · cases h
   · cases h
 · rename_i t x y ty
   split at h
   · rename_i a c hx hy
     simp only [Option.some.injEq, Prod.mk.injEq] at h
     obtain ⟨rfl, rfl⟩ := h
     have hb : decide (a.length + c.length ≤ 9223372036854775807) = true := hb
     simp only [decide_eq_true_eq] at hb
     have : Ar.real.cat a c = some (Fam.real .app a c) := by
       show (if ((a.length + c.length : Nat) : Int) > IntKind.i64.max then none else some (a ++ c)) = _
       have hm : IntKind.i64.max = 9223372036854775807 := by decide
       rw [if_neg (by rw [hm]; omega)]
       rfl
     simp only [pureOp, hx, hy, binAV, binSc, this]
   · cases h
 · rename_i t x i
   split at h
   · rename_i e k es k2 n hk hx hi
     split at h
     · rename_i s sk hs hsk
       split at h
       · rename_i hks
         simp only [Option.some.injEq, Prod.mk.injEq] at h
         obtain ⟨rfl, rfl⟩ := h
         obtain ⟨d, hd, hc⟩ := hasD_some hb
         simp only [pureOp, hx, hk, hs, indexAddrAV, hi]
         rw [if_pos (Nat.eq_of_beq_eq_true hks)]
         simp only [hd, hc]
       · cases h
     · cases h
   · cases h
 · rename_i s d x
   split at h
   · rename_i e k es hs hd hx
     split at h
     · rename_i he hk1
       simp only [Option.some.injEq, Prod.mk.injEq] at h
       obtain ⟨rfl, rfl⟩ := h
       have hb : (strOf es).isSome = true := hb
       simp only [pureOp, hx, strAV, hs, hd, he, hk1]
       obtain ⟨l, hl⟩ := Option.isSome_iff_exists.1 hb
       have e1 : Ar.real.strD es = some l := hl
       have e2 : Fam.real .ofStr es = l := by show (strOf es).getD [] = l; rw [hl]; rfl
       simp only [e1, e2]
     · cases h
   · cases h
 · rename_i t x
   split at h
   · rename_i b0 hl hx
     cases b0 <;> simp only [Option.some.injEq, Prod.mk.injEq] at h <;> obtain ⟨rfl, rfl⟩ := h <;> simp only [pureOp, hx, unAV] <;> rfl
   · cases h
 · cases h
def rowFlag : List Nat → Bool
 | [] => false
 | [_] => false
 | [a, b] => (match a with
   | 0 => (match b with
     | 0 => true
     | _ => false)
   | _ => false)
 | _ :: b :: c :: r => rowFlag (b :: c :: r)
def rowIxT (F : Fam) (τ : Tab) (S : St) (t : TypeId) (n k : Nat) (m : Int) : Option (Bool × AV) := match look n S.h, kindOf τ t with
 | some (.ds E k1 es), .slice e => (match sizeAt τ e with
   | s + 1 => (match Nat.beq k (s + 1) with
     | true => some (F .hasN es m, .ptr n (F .toN m) 0 k)
     | false => none)
   | 0 => none)
 | _, _ => none
def rowLdT (F : Fam) (τ : Tab) (S : St) (t : TypeId) (n i off k : Nat) : Option (Bool × AV) := match look n S.h, look t τ with
 | some (.ds E k1 es), some y => (match shapeOf τ 6 E, Nat.beq k k1 with
   | some sk, true => (match Nat.ble y.size (((cellsF F es (F .natI i) 0 sk).drop off).map AV.d).length, y.k.isAgg with
     | true, true => some (F .hasD es (F .natI i) sk, mkAgg ((((cellsF F es (F .natI i) 0 sk).drop off).map AV.d).take y.size))
     | true, false => (match (((cellsF F es (F .natI i) 0 sk).drop off).map AV.d)[0]? with
       | some z => some (F .hasD es (F .natI i) sk, z)
       | none => none)
     | false, _ => none)
   | _, _ => none)
 | _, _ => none
def divT (F : Fam) (q : Bool) (S : St) (x : Operand) (yt : Nat) : Option (Bool × AV) := match evl S x, evl S (.tmp yt) with
 | .d (.s (.int k a)), .d (.s (.int k' b)) => (match decide (k = k'), q with
   | true, true => some (F .nz b, .d (.s (.int k (F .wrap k (F .tdiv a b)))))
   | true, false => some (F .nz b, .d (.s (.int k (F .tmod a b))))
   | false, _ => none)
 | _, _ => none
def opR (F : Fam) (τ : Tab) (dc : List Nat) (S : St) : Op → Option (Bool × AV)
 | .indexAddr t x i => (match rowFlag dc, evl S x, evl S i with
   | true, .row n k, .d (.s (.int _ m)) => rowIxT F τ S t n k m
   | _, _, _ => none)
 | .load t p => (match rowFlag dc, evl S p with
   | true, .ptr n i off k => rowLdT F τ S t n i off k
   | _, _ => none)
 | .binOp op _ x y _ => (match rowFlag dc, y, op with
   | true, .tmp yt, .quo => divT F true S x yt
   | true, .tmp yt, .rem => divT F false S x yt
   | _, _, _ => none)
 | _ => none
def opT (F : Fam) (τ : Tab) (dc : List Nat) (S : St) (op : Op) : Option (Bool × AV) := match opR F τ dc S op with
 | some r => some r
 | none => opT0 F τ dc S op
theorem getI_nat {α : Type} {l : List α} {i : Nat} {d : α} (h : getI l ((i : Nat) : Int) = some d) : l[i]? = some d := by
 unfold getI at h
 rw [if_pos (by omega)] at h
 simpa using h
theorem divT_ok {τ : Tab} {S : St} {x : Operand} {yt : Nat} {q b : Bool} {z : AV} (h : divT Fam.real q S x yt = some (b, z)) (hb : b = true) {op : BinOp} {t u : TypeId} (ho : op = (if q then .quo else .rem)) : pureOp Ar.real τ S (.binOp op t x (.tmp yt) u) = some z := by
 subst ho
 unfold divT at h
 split at h
 · rename_i k a k' c hx hy
   split at h
   · rename_i hk
     obtain rfl := of_decide_eq_true hk
     simp only [Option.some.injEq, Prod.mk.injEq] at h
     obtain ⟨hbe, rfl⟩ := h
     have nzc : nzOp Ar.real (.tmp yt) c = true := hbe.trans hb
     simp only [pureOp, hx, hy, binAV, binSc, if_true, nzc]
     rfl
   · rename_i hk
     obtain rfl := of_decide_eq_true hk
     simp only [Option.some.injEq, Prod.mk.injEq] at h
     obtain ⟨hbe, rfl⟩ := h
     have nzc : nzOp Ar.real (.tmp yt) c = true := hbe.trans hb
     simp only [pureOp, hx, hy, binAV, binSc, Bool.false_eq_true, if_false, if_true, nzc]
     rfl
   · cases h
 · cases h
theorem opR_pure {τ : Tab} {dc : List Nat} {S : St} {op : Op} {b : Bool} {z : AV} (h : opR Fam.real τ dc S op = some (b, z)) (hb : b = true) : pureOp Ar.real τ S op = some z := by
 unfold opR at h
 split at h
 · rename_i t x i
   split at h
   · rename_i n k ki m hfl hx hi
     unfold rowIxT at h
     split at h
     · rename_i E k1 es e hl hk
       split at h
       · rename_i s hs
         split at h
         · rename_i hks
           simp only [Option.some.injEq, Prod.mk.injEq] at h
           obtain ⟨rfl, rfl⟩ := h
           have hb : (decide (0 ≤ m) && decide (m < (es.length : Int))) = true := hb
           simp only [Bool.and_eq_true, decide_eq_true_eq] at hb
           simp only [pureOp, hx, hi, rowIndexAV, hk, hs, rowOf, hl]
           rw [if_pos (Nat.eq_of_beq_eq_true hks)]
           have : Ar.real.inL es m = some m.toNat := by
             show (if 0 ≤ m ∧ m < (es.length : Int) then some m.toNat else none) = _
             rw [if_pos hb]
           rw [this]
           rfl
         · cases h
       · cases h
     · cases h
   · cases h
 · rename_i t p
   split at h
   · rename_i n i off k hfl hp
     unfold rowLdT at h
     split at h
     · rename_i E k1 es y hl hy
       split at h
       · rename_i sk hsk hks
         have key : ∀ {b0 : Bool}, b0 = Fam.real .hasD es (Fam.real .natI i) sk → b0 = true → cellsAt S (.ptr n i off k) = some (((cellsF Fam.real es (Fam.real .natI i) 0 sk).drop off).map AV.d) := by
           rintro _ rfl hb0
           obtain ⟨d, hd, hc⟩ := hasD_some hb0
           have hd2 : es[i]? = some d := getI_nat hd
           simp only [cellsAt, hl]
           rw [if_pos (Nat.eq_of_beq_eq_true hks)]
           simp only [hd2, hc]
         split at h
         · rename_i hsz hag
           simp only [Option.some.injEq, Prod.mk.injEq] at h
           obtain ⟨hbe, rfl⟩ := h
           simp only [pureOp, hp, loadAV, hy, key hbe.symm hb]
           rw [if_pos (Nat.le_of_ble_eq_true hsz), if_pos hag]
         · rename_i hsz hag
           split at h
           · rename_i z0 hz0
             simp only [Option.some.injEq, Prod.mk.injEq] at h
             obtain ⟨hbe, rfl⟩ := h
             simp only [pureOp, hp, loadAV, hy, key hbe.symm hb]
             rw [if_pos (Nat.le_of_ble_eq_true hsz), if_neg (by rw [hag]; decide)]
             exact hz0
           · cases h
         · cases h
       · cases h
     · cases h
   · cases h
 · rename_i op t x y u
   split at h
   · exact divT_ok h hb rfl
   · exact divT_ok h hb rfl
   · cases h
 · cases h
theorem opT_pure {τ : Tab} {dc : List Nat} {S : St} {op : Op} {b : Bool} {z : AV} (h : opT Fam.real τ dc S op = some (b, z)) (hb : b = true) : pureOp Ar.real τ S op = some z := by
 unfold opT at h
 split at h
 · rename_i r hr
   obtain rfl := Option.some.inj h
   exact opR_pure hr hb
 · exact opT0_pure h hb
def stB (F : Fam) (τ : Tab) (dc : List Nat) (t : TypeId) (i off k : Nat) (x : AV) (B : Option Blk) : Option (Bool × Blk) := match rowFlag dc, B with
 | true, some (.ds E k1 es) => (match Nat.beq k k1, x.st, unDs x.cells with
   | true, true, some ds => (match Nat.beq x.cells.length (sizeAt τ t), Nat.ble (off + ds.length) k, Nat.beq k ds.length with
     | true, true, true => (match x with
       | .d d => some (F .hasN es (F .natI i), .ds E k1 (F .setD es i d))
       | _ => none)
     | true, true, false => (match shapeOf τ 6 E with
       | some sk => some (F .hasD es (F .natI i) sk, .ds E k1 (F .setD es i (.agg (splice (cellsF F es (F .natI i) 0 sk) off ds))))
       | none => none)
     | _, _, _ => none)
   | _, _, _ => none)
 | _, _ => none
theorem stB_ok {τ : Tab} {dc : List Nat} {t : TypeId} {i off k : Nat} {x : AV} {B : Option Blk} {b : Bool} {B' : Blk} (h : stB Fam.real τ dc t i off k x B = some (b, B')) (hb : b = true) : storeB Ar.real τ t i off k x B = some B' := by
 unfold stB at h
 split at h
 · rename_i E k1 es hfl
   split at h
   · rename_i ds hks hst hun
     have hk1 := Nat.eq_of_beq_eq_true hks
     split at h
     · rename_i h1 h2 h3
       split at h
       · rename_i d
         simp only [Option.some.injEq, Prod.mk.injEq] at h
         obtain ⟨rfl, rfl⟩ := h
         have hb : (decide (0 ≤ ((i : Nat) : Int)) && decide (((i : Nat) : Int) < (es.length : Int))) = true := hb
         simp only [Bool.and_eq_true, decide_eq_true_eq] at hb
         have hlt : i < es.length := by omega
         have hn : Ar.real.nthD es i = some es[i] := List.getElem?_eq_getElem hlt
         simp only [storeB, hst]
         rw [if_pos ⟨hk1, Nat.eq_of_beq_eq_true h1⟩]
         simp only [hn, hun]
         rw [if_pos (Nat.le_of_ble_eq_true h2), if_pos (Nat.eq_of_beq_eq_true h3)]
         rfl
       · cases h
     · rename_i h1 h2 h3
       split at h
       · rename_i sk hsk
         simp only [Option.some.injEq, Prod.mk.injEq] at h
         obtain ⟨rfl, rfl⟩ := h
         obtain ⟨d, hd, hc⟩ := hasD_some hb
         have hd2 : es[i]? = some d := getI_nat hd
         have hn : Ar.real.nthD es i = some d := hd2
         simp only [storeB, hst]
         rw [if_pos ⟨hk1, Nat.eq_of_beq_eq_true h1⟩]
         simp only [hn, hun]
         rw [if_pos (Nat.le_of_ble_eq_true h2), if_neg (Nat.ne_of_beq_eq_false h3), hc]
         rfl
       · cases h
     · cases h
   · cases h
 · cases h
def stR (F : Fam) (τ : Tab) (dc : List Nat) (S : St) : Op → Option (Bool × St)
 | .store t p x => (match evl S p, sizeAt τ t with
   | .ptr n i off k, _ + 1 => (match stB F τ dc t i off k (evl S x) (look n S.h) with
     | some (b, B) => some (b, S.wr n B)
     | none => none)
   | _, _ => none)
 | _ => none
theorem stR_ok {τ : Tab} {dc : List Nat} {S S' : St} {op : Op} {b : Bool} (h : stR Fam.real τ dc S op = some (b, S')) (hb : b = true) : effOp Ar.real τ S op = some (.tup [], S') ∧ pureOp Ar.real τ S op = none := by
 unfold stR at h
 split at h
 · rename_i t p x
   split at h
   · rename_i n i off k m hp hs
     split at h
     · rename_i b0 B hB
       simp only [Option.some.injEq, Prod.mk.injEq] at h
       obtain ⟨rfl, rfl⟩ := h
       refine ⟨?_, rfl⟩
       simp only [effOp, hs, hp, storeOp_B, stB_ok hB hb]
     · cases h
   · cases h
 · cases h
def apT (F : Fam) (S : St) (e : TypeId) (y : Ty) (es2 : List Dat) (s : AV) : Option (Bool × AV × St) := match s with
 | .row n k0 => (match look n S.h with
   | some (.ds E k1 es) => (match Nat.beq E e, Nat.beq k1 y.size, Nat.beq k0 y.size with
     | true, true, true => some (F .fits y.bytes (F .appD es es2), .row S.fr y.size, S.rep n (.ds e y.size (F .appD es es2)))
     | _, _, _ => none)
   | _ => none)
 | .d (.s .sl0) => some (F .fits y.bytes es2, .row S.fr y.size, S.new (.ds e y.size es2))
 | .nul => some (F .fits y.bytes es2, .row S.fr y.size, S.new (.ds e y.size es2))
 | _ => none
def apOp (F : Fam) (τ : Tab) (S : St) (t1 t2 : TypeId) (s x : AV) : Option (Bool × AV × St) :=
 match kindOf τ t1 with
 | .slice e => (match look e τ with
   | some y => (match okZero y && (y.size != 0 && y.bytes != 0) with
     | true => (match Nat.beq t1 t2 with
       | true => (match srcOf S x with
         | some (k, es2) => (match Nat.beq k y.size with
           | true => apT F S e y es2 s
           | false => none)
         | none => none)
       | false => (match kindOf τ t2, kindOf τ e, x, Nat.beq y.size 1 with
         | .string, .int .u8, .d (.s (.str l)), true => apT F S e y (F .bytesD l) s
         | _, _, _, _ => none))
     | false => none)
   | none => none)
 | _ => none
theorem apT_ok {S : St} {e : TypeId} {y : Ty} {es2 : List Dat} {s z : AV} {b : Bool} {S' : St} (h : apT Fam.real S e y es2 s = some (b, z, S')) (hb : b = true) : appG Ar.real S e y es2 s = some (z, S') := by
 unfold apT at h
 split at h
 · rename_i n k0
   split at h
   · rename_i E k1 es hl
     split at h
     · rename_i h1 h2 h3
       simp only [Option.some.injEq, Prod.mk.injEq] at h
       obtain ⟨rfl, rfl, rfl⟩ := h
       simp only [appG, hl]
       rw [if_pos ⟨Nat.eq_of_beq_eq_true h1, Nat.eq_of_beq_eq_true h2, Nat.eq_of_beq_eq_true h3⟩]
       have e1 : Ar.real.fits y.bytes (Ar.real.appD es es2) = true := hb
       rw [e1]
       rfl
     · cases h
   · cases h
 · simp only [Option.some.injEq, Prod.mk.injEq] at h
   obtain ⟨rfl, rfl, rfl⟩ := h
   have e1 : Ar.real.fits y.bytes es2 = true := hb
   simp only [appG, e1]
 · simp only [Option.some.injEq, Prod.mk.injEq] at h
   obtain ⟨rfl, rfl, rfl⟩ := h
   have e1 : Ar.real.fits y.bytes es2 = true := hb
   simp only [appG, e1]
 · cases h
theorem apOp_ok {τ : Tab} {S : St} {t1 t2 : TypeId} {s x z : AV} {b : Bool} {S' : St} (h : apOp Fam.real τ S t1 t2 s x = some (b, z, S')) (hb : b = true) : appendOp Ar.real τ S t1 t2 s x = some (z, S') := by
 unfold apOp at h
 unfold appendOp
 split at h
 · rename_i e hk
   rw [hk]
   simp only
   split at h
   · rename_i y hy
     rw [hy]
     simp only
     split at h
     · rename_i hz
       rw [hz]
       simp only
       split at h
       · rename_i ht
         rw [ht]
         simp only
         split at h
         · rename_i k es2 hs
           rw [hs]
           simp only
           split at h
           · rename_i hks
             rw [if_pos (Nat.eq_of_beq_eq_true hks)]
             exact apT_ok h hb
           · cases h
         · cases h
       · rename_i ht
         rw [ht]
         simp only
         split at h
         · rename_i l h1 h2 h3
           rw [h1, h2, h3]
           simp only
           exact apT_ok h hb
         · cases h
     · cases h
   · cases h
 · cases h
def opE0 (F : Fam) (τ : Tab) (S : St) : Op → Option (Bool × AV × St)
 | .call c => (match c.callee, c.argTypes.toList, c.args.toList with
   | .builtin .append, [t1, t2], [s, x] => apOp F τ S t1 t2 (evl S s) (evl S x)
   | _, _, _ => none)
 | _ => none
theorem opE0_ok {τ : Tab} {S : St} {op : Op} {b : Bool} {z : AV} {S' : St} (h : opE0 Fam.real τ S op = some (b, z, S')) (hb : b = true) : effOp Ar.real τ S op = some (z, S') ∧ pureOp Ar.real τ S op = none := by
 unfold opE0 at h
 split at h
 · rename_i c
   split at h
   · rename_i t1 t2 s x h1 h2 h3
     refine ⟨?_, ?_⟩
     · simp only [effOp, h1, h2, h3]
       exact apOp_ok h hb
     · simp only [pureOp, h1, h2]
       rfl
   · cases h
 · cases h
def opE (F : Fam) (τ : Tab) (dc : List Nat) (S : St) (op : Op) : Option (Bool × AV × St) := match stR F τ dc S op with
 | some (b, S') => some (b, .tup [], S')
 | none => opE0 F τ S op
theorem opE_ok {τ : Tab} {dc : List Nat} {S : St} {op : Op} {b : Bool} {z : AV} {S' : St} (h : opE Fam.real τ dc S op = some (b, z, S')) (hb : b = true) : effOp Ar.real τ S op = some (z, S') ∧ pureOp Ar.real τ S op = none := by
 unfold opE at h
 split at h
 · rename_i b0 S0 hS
   simp only [Option.some.injEq, Prod.mk.injEq] at h
   obtain ⟨rfl, rfl, rfl⟩ := h
   exact stR_ok hS hb
 · exact opE0_ok h hb
def normF (g : TypeId → List Dat → List Dat × List Dat) : List (Nat × TypeId) → List Dat → List Dat × List Dat
 | [], l => ([], l)
 | p :: r, l => (match g p.2 l with
   | (a, l1) => (match normF g r l1 with
     | (b, l2) => (a ++ b, l2)))
def normC (τ : Tab) : Nat → TypeId → List Dat → List Dat × List Dat
 | 0, _, l => ([], l)
 | f + 1, t, l => (match kindOf τ t with
   | .slice e => (match l with
     | .s .sl0 :: r => ([.view (sizeAt τ e) []], r)
     | x :: r => ([x], r)
     | [] => ([], []))
   | .struct fs => normF (normC τ f) fs l
   | _ => (l.take (sizeAt τ t), l.drop (sizeAt τ t)))
def normA (τ : Tab) (t : TypeId) : AV → AV
 | .d (.agg cs) => (match normC τ 6 t cs with
   | (a, b) => .d (.agg (a ++ b)))
 | .d (.s .sl0) => (match kindOf τ t with
   | .slice e => .d (.view (sizeAt τ e) [])
   | _ => .d (.s .sl0))
 | x => x
def normAs (τ : Tab) : List TypeId → List AV → List AV
 | t :: ts, x :: xs => normA τ t x :: normAs τ ts xs
 | _, xs => xs
theorem LesD.rfl' : ∀ (l : List Dat), LesD l l
 | [] => .nil
 | x :: l => .cons (.refl x) (LesD.rfl' l)
theorem LesD.app : ∀ {a b c d : List Dat}, LesD a b → LesD c d → LesD (a ++ c) (b ++ d)
 | _, _, _, _, .nil, h => h
 | _, _, _, _, .cons h t, h2 => .cons h (t.app h2)
def NormOK (l : List Dat) (p : List Dat × List Dat) : Prop := ∃ a, l = a ++ p.2 ∧ LesD a p.1
theorem normF_ok {g : TypeId → List Dat → List Dat × List Dat} (hg : ∀ t l, NormOK l (g t l)) : ∀ (fs : List (Nat × TypeId)) (l : List Dat), NormOK l (normF g fs l)
 | [], l => ⟨[], rfl, .nil⟩
 | p :: r, l => by
   obtain ⟨a, h1, h2⟩ := hg p.2 l
   unfold normF
   cases hp : g p.2 l with
   | mk a1 l1 =>
     rw [hp] at h1 h2
     obtain ⟨b, h3, h4⟩ := normF_ok hg r l1
     dsimp only
     cases hq : normF g r l1 with
     | mk b1 l2 =>
       rw [hq] at h3 h4
       exact ⟨a ++ b, by rw [h1, List.append_assoc]; congr 1, h2.app h4⟩
theorem normC_ok (τ : Tab) : ∀ (f : Nat) (t : TypeId) (l : List Dat), NormOK l (normC τ f t l)
 | 0, t, l => ⟨[], rfl, .nil⟩
 | f + 1, t, l => by
   unfold normC
   split
   · rename_i e _
     split
     · rename_i r
       exact ⟨[.s .sl0], rfl, .cons (.nil _) .nil⟩
     · rename_i x r _
       exact ⟨[x], rfl, .cons (.refl x) .nil⟩
     · exact ⟨[], rfl, .nil⟩
   · exact normF_ok (normC_ok τ f) _ _
   · exact ⟨l.take (sizeAt τ t), (List.take_append_drop _ _).symm, LesD.rfl' _⟩
theorem normA_le (τ : Tab) (t : TypeId) (x : AV) : LeA x (normA τ t x) := by
 unfold normA
 split
 · rename_i cs
   obtain ⟨a, h1, h2⟩ := normC_ok τ 6 t cs
   cases hp : normC τ 6 t cs with
   | mk a1 b1 =>
     rw [hp] at h1 h2
     dsimp only
     rw [h1]
     exact .d (.agg (h2.app (LesD.rfl' _)))
 · split
   · exact .d (.nil _)
   · exact .refl _
 · exact .refl _
theorem normAs_le (τ : Tab) : ∀ (ts : List TypeId) (xs : List AV), LesA xs (normAs τ ts xs)
 | [], [] => .nil
 | t :: ts, [] => .nil
 | [], x :: xs => by
   unfold normAs
   have : ∀ l : List AV, LesA l l := fun l => by
     induction l with
     | nil => exact .nil
     | cons x l ih => exact .cons (.refl x) ih
   exact this _
 | t :: ts, x :: xs => .cons (normA_le τ t x) (normAs_le τ ts xs)
def callA (φ : List AV → Option (Bool × AV)) (args : List AV) : Option (Bool × AV) := match φ args with
 | some (b, x) => (match lts 0 args, x.lt 0 with
   | true, true => some (b, x)
   | _, _ => none)
 | none => none
def callT (τ : Tab) (G : Tbl) (S : St) (op : Op) : Option (Bool × AV) := match op with
 | .call c => (match c.callee with
   | .value fo => (match fargs (evl S fo) with
     | some (g, fi, ca) => (match look g G with
       | some (.p φ) => (match callA φ (app3 fi (evls S c.args.toList) ca) with
         | some r => some r
         | none => (match fi, ca with
           | [], [] => callA φ (normAs τ c.argTypes.toList (evls S c.args.toList))
           | _, _ => none))
       | _ => none)
     | none => none)
   | _ => none)
 | _ => none
mutual
def AV.inN (ns : List Nat) : AV → Bool
 | .d _ => true
 | .agg cs => insN ns cs
 | .tup cs => insN ns cs
 | .ptr n _ _ _ => memN n ns
 | .opt n => memN n ns
 | .mp n => memN n ns
 | .row n _ => memN n ns
 | .own n _ _ _ _ => memN n ns
 | .iface _ x => x.inN ns
 | .fn _ a b => match insN ns a with
   | true => insN ns b
   | false => false
 | .nul => true
 | .any => true
def insN (ns : List Nat) : List AV → Bool
 | [] => true
 | x :: l => match x.inN ns with
   | true => insN ns l
   | false => false
end
def Blk.inN (ns : List Nat) : Blk → Bool
 | .cs _ l => insN ns l
 | .ds _ _ _ => true
 | .xs _ _ _ _ l => insN ns l
 | .mp _ => true
def addN (n : Nat) (ns : List Nat) : List Nat := match memN n ns with
 | true => ns
 | false => ns ++ [n]
mutual
def AV.nms (ns : List Nat) : AV → List Nat
 | .d _ => ns
 | .agg cs => nmss ns cs
 | .tup cs => nmss ns cs
 | .ptr n _ _ _ => addN n ns
 | .opt n => addN n ns
 | .mp n => addN n ns
 | .row n _ => addN n ns
 | .own n _ _ _ _ => addN n ns
 | .iface _ x => x.nms ns
 | .fn _ a b => nmss (nmss ns a) b
 | .nul => ns
 | .any => ns
def nmss (ns : List Nat) : List AV → List Nat
 | [] => ns
 | x :: l => nmss (x.nms ns) l
end
def bnms (ns : List Nat) : Blk → List Nat
 | .cs _ l => nmss ns l
 | .ds _ _ _ => ns
 | .xs _ _ _ _ l => nmss ns l
 | .mp _ => ns
def clo1 (h : List (Nat × Blk)) : List Nat → List Nat → List Nat
 | [], ns => ns
 | n :: r, ns => (match look n h with
   | some B => clo1 h r (bnms ns B)
   | none => clo1 h r ns)
def clo (h : List (Nat × Blk)) : Nat → List Nat → List Nat
 | 0, ns => ns
 | f + 1, ns => clo h f (clo1 h ns ns)
def posN (n : Nat) : List Nat → Nat
 | [] => 0
 | m :: r => (match Nat.beq m n with
   | true => 0
   | false => posN n r + 1)
def nthN : List Nat → Nat → Nat
 | [], _ => 0
 | m :: _, 0 => m
 | _ :: r, i + 1 => nthN r i
def mkH (ns : List Nat) (h : List (Nat × Blk)) : List Nat → Nat → Option (List (Nat × Blk))
 | [], _ => some []
 | n :: r, i => (match look n h with
   | some B => (match B.inN ns, mkH ns h r (i + 1) with
     | true, some l => some ((i, B.ren (fun n => posN n ns)) :: l)
     | _, _ => none)
   | none => none)
def callMx (φ : Nat → List AV → List (Nat × Blk) → Option (Bool × AV × List (Nat × Blk) × Nat)) (S : St) (args : List AV) (ns : List Nat) : Option (Bool × AV × St) :=
 match insN ns args, nodupB ns, mkH ns S.h ns 0 with
 | true, true, some h => (match φ ns.length (rens (fun n => posN n ns) args) h with
   | some (b, x, h', fr') => some (b, x.ren (shift (nthN ns) ns.length S.fr), S.after (nthN ns) ns.length h' fr')
   | none => none)
 | _, _, _ => none
def callM (G : Tbl) (S : St) (op : Op) : Option (Bool × AV × St) := match op with
 | .call c => (match c.callee with
   | .value fo => (match fargs (evl S fo) with
     | some (g, fi, ca) => (match look g G with
       | some (.m φ) => callMx φ S (app3 fi (evls S c.args.toList) ca) (clo S.h 4 (nmss [] (app3 fi (evls S c.args.toList) ca)))
       | _ => none)
     | none => none)
   | _ => none)
 | _ => none
theorem posN_ok {n : Nat} : ∀ {ns : List Nat}, memN n ns = true → nthN ns (posN n ns) = n ∧ posN n ns < ns.length
 | [], h => by simp [memN] at h
 | m :: r, h => by
   unfold memN at h
   unfold posN
   split
   · rename_i e
     exact ⟨Nat.eq_of_beq_eq_true e, by simp⟩
   · rename_i e
     rw [e] at h
     obtain ⟨h1, h2⟩ := posN_ok h
     exact ⟨h1, by simpa using h2⟩
mutual
theorem ren_back (ns : List Nat) : ∀ x : AV, x.inN ns = true → (x.ren (fun n => posN n ns)).ren (nthN ns) = x ∧ (x.ren (fun n => posN n ns)).lt ns.length = true
 | .d x, _ => ⟨rfl, rfl⟩
 | .agg cs, h => by
   have := rens_back ns cs (by simpa [AV.inN] using h)
   simp only [AV.ren, AV.lt, this.1, this.2, and_self]
 | .tup cs, h => by
   have := rens_back ns cs (by simpa [AV.inN] using h)
   simp only [AV.ren, AV.lt, this.1, this.2, and_self]
 | .ptr n i o k, h => by
   have := posN_ok (show memN n ns = true from h)
   simp only [AV.ren, AV.lt, this.1, true_and]
   simpa [Nat.blt_eq] using this.2
 | .opt n, h => by
   have := posN_ok (show memN n ns = true from h)
   simp only [AV.ren, AV.lt, this.1, true_and]
   simpa [Nat.blt_eq] using this.2
 | .mp n, h => by
   have := posN_ok (show memN n ns = true from h)
   simp only [AV.ren, AV.lt, this.1, true_and]
   simpa [Nat.blt_eq] using this.2
 | .row n k, h => by
   have := posN_ok (show memN n ns = true from h)
   simp only [AV.ren, AV.lt, this.1, true_and]
   simpa [Nat.blt_eq] using this.2
 | .own n i l k c, h => by
   have := posN_ok (show memN n ns = true from h)
   simp only [AV.ren, AV.lt, this.1, true_and]
   simpa [Nat.blt_eq] using this.2
 | .iface t x, h => by
   have := ren_back ns x (by simpa [AV.inN] using h)
   simp only [AV.ren, AV.lt, this.1, this.2, and_self]
 | .fn f a b, h => by
   simp only [AV.inN] at h
   split at h
   · rename_i h1
     have g1 := rens_back ns a h1
     have g2 := rens_back ns b h
     simp only [AV.ren, AV.lt, g1.1, g1.2, g2.1, g2.2, and_self]
   · cases h
 | .nul, _ => ⟨rfl, rfl⟩
 | .any, _ => ⟨rfl, rfl⟩
theorem rens_back (ns : List Nat) : ∀ l : List AV, insN ns l = true → rens (nthN ns) (rens (fun n => posN n ns) l) = l ∧ lts ns.length (rens (fun n => posN n ns) l) = true
 | [], _ => ⟨rfl, rfl⟩
 | x :: l, h => by
   simp only [insN] at h
   split at h
   · rename_i h1
     have g1 := ren_back ns x h1
     have g2 := rens_back ns l h
     simp only [rens, lts, g1.1, g1.2, g2.1, g2.2, and_self]
   · cases h
end
theorem bren_back {ns : List Nat} {B : Blk} (h : B.inN ns = true) : (B.ren (fun n => posN n ns)).ren (nthN ns) = B ∧ (B.ren (fun n => posN n ns)).lt ns.length = true := by
 cases B with
 | cs T l =>
   have := rens_back ns l h
   simp only [Blk.ren, Blk.lt, this.1, this.2, and_self]
 | ds E k es => exact ⟨rfl, rfl⟩
 | mp f => exact ⟨rfl, rfl⟩
 | xs E k m es l =>
   have := rens_back ns l h
   simp only [Blk.ren, Blk.lt, this.1, this.2, and_self]
theorem nthN_mem : ∀ {ns : List Nat} {i : Nat}, i < ns.length → nthN ns i ∈ ns
 | [], i, h => by simp at h
 | m :: r, 0, h => by simp [nthN]
 | m :: r, i + 1, h => List.mem_cons_of_mem _ (nthN_mem (by simpa using h))
theorem nthN_inj : ∀ {ns : List Nat}, nodupB ns = true → ∀ i j, i < ns.length → j < ns.length → nthN ns i = nthN ns j → i = j
 | [], _, i, j, h, _, _ => by simp at h
 | m :: r, hd, i, j, hi, hj, e => by
   unfold nodupB at hd
   split at hd
   · cases hd
   · rename_i hm
     have no : ∀ k, k < r.length → nthN r k ≠ m := fun k hk h => by
       have := memN_of (nthN_mem hk)
       rw [h, hm] at this
       cases this
     match i, j, hi, hj, e with
     | 0, 0, _, _, _ => rfl
     | 0, j + 1, _, hj, e => exact absurd e.symm (no j (by simpa using hj))
     | i + 1, 0, hi, _, e => exact absurd e (no i (by simpa using hi))
     | i + 1, j + 1, hi, hj, e => rw [nthN_inj hd i j (by simpa using hi) (by simpa using hj) e]
theorem mkH_ok {ns : List Nat} {h : List (Nat × Blk)} : ∀ {l : List Nat} {i : Nat} {hh : List (Nat × Blk)}, mkH ns h l i = some hh → (∀ n, i ≤ n → n < i + l.length → (look n hh).isSome = true) ∧
   ∀ n B, look n hh = some B → i ≤ n ∧ n < i + l.length ∧ ∃ B0, look (nthN l (n - i)) h = some B0 ∧ B0.inN ns = true ∧ B = B0.ren (fun n => posN n ns)
 | [], i, hh, e => by
   obtain rfl := Option.some.inj e
   exact ⟨fun n h1 h2 => by simp at h2; omega, fun n B h => by simp [look] at h⟩
 | m :: r, i, hh, e => by
   unfold mkH at e
   split at e
   · rename_i B hB
     split at e
     · rename_i l h1 h2
       obtain rfl := Option.some.inj e
       obtain ⟨g1, g2⟩ := mkH_ok h2
       refine ⟨fun n hn1 hn2 => ?_, fun n B' hB' => ?_⟩
       · rw [look_cons]
         split
         · rfl
         · rename_i hne
           simp at hn2 hne
           exact g1 n (by omega) (by omega)
       · rw [look_cons] at hB'
         split at hB'
         · rename_i he
           simp at he
           obtain rfl := Option.some.inj hB'
           subst he
           exact ⟨Nat.le_refl _, by simp, B, by simpa [nthN] using hB, h1, rfl⟩
         · obtain ⟨k1, k2, B0, k3, k4, k5⟩ := g2 n B' hB'
           refine ⟨by omega, by simp; omega, B0, ?_, k4, k5⟩
           have : n - i = n - (i + 1) + 1 := by omega
           rw [this]
           exact k3
     · cases e
   · cases e
theorem callM_some {P : Program} [Globs P] {G : Tbl} (hG : TblOK P G) {S : St} {op : Op} {b : Bool} {z : AV} {S' : St} (h : callM G S op = some (b, z, S')) (hb : b = true) :
   ∃ c fo g fi ca args hh ns x h' fr', op = .call c ∧ c.callee = .value fo ∧ fargs (evl S fo) = some (g, fi, ca) ∧ app3 fi (evls S c.args.toList) ca = rens (nthN ns) args ∧ lts ns.length args = true ∧
     (∀ n, n < ns.length → (look n hh).isSome = true) ∧ (∀ n B, look n hh = some B → n < ns.length ∧ B.lt ns.length = true ∧ look (nthN ns n) S.h = some (B.ren (nthN ns))) ∧
     (∀ n m, n < ns.length → m < ns.length → nthN ns n = nthN ns m → n = m) ∧ ASpec P g args hh ns.length (fun y h1 fr1 => y = x ∧ h1 = h' ∧ fr1 = fr') ∧
     z = x.ren (shift (nthN ns) ns.length S.fr) ∧ S' = S.after (nthN ns) ns.length h' fr' := by
 unfold callM at h
 split at h
 · rename_i c
   split at h
   · rename_i fo hc
     split at h
     · rename_i g fi ca hf
       split at h
       · rename_i φ hφ
         obtain ⟨ns, hns⟩ : ∃ ns, ns = clo S.h 4 (nmss [] (app3 fi (evls S c.args.toList) ca)) := ⟨_, rfl⟩
         rw [← hns] at h
         unfold callMx at h
         split at h
         · rename_i hh h1 h2 h3
           split at h
           · rename_i b' x h' fr' hx
             simp only [Option.some.injEq, Prod.mk.injEq] at h
             obtain ⟨rfl, rfl, rfl⟩ := h
             obtain ⟨r1, r2⟩ := rens_back ns _ h1
             obtain ⟨m1, m2⟩ := mkH_ok h3
             refine ⟨c, fo, g, fi, ca, _, hh, ns, x, h', fr', rfl, hc, hf, r1.symm, r2, fun n hn => m1 n (by omega) (by omega), fun n B hB => ?_, nthN_inj h2, hG.get hφ _ _ _ _ _ _ _ hx hb, rfl, rfl⟩
             obtain ⟨k1, k2, B0, k3, k4, rfl⟩ := m2 n B hB
             obtain ⟨b1, b2⟩ := bren_back k4
             exact ⟨by omega, b2, by rw [b1]; simpa using k3⟩
           · cases h
         · cases h
       · cases h
     · cases h
   · cases h
 · cases h
theorem effOp_fr {A : Ar} {τ : Tab} {S S' : St} {op : Op} {z : AV} (h : effOp A τ S op = some (z, S')) : S.fr ≤ S'.fr := by
 unfold effOp at h
 split at h
 · unfold allocOp at h
   repeat' split at h
   all_goals first
     | (cases h; done)
     | (simp only [Option.some.injEq, Prod.mk.injEq] at h; obtain ⟨_, rfl⟩ := h; exact Nat.le_succ _)
 · unfold boxOp at h
   repeat' split at h
   all_goals first
     | (cases h; done)
     | (simp only [Option.some.injEq, Prod.mk.injEq] at h; obtain ⟨_, rfl⟩ := h; exact Nat.le_succ _)
 · unfold buildSliceOp at h
   repeat' split at h
   all_goals first
     | (cases h; done)
     | (simp only [Option.some.injEq, Prod.mk.injEq] at h; obtain ⟨_, rfl⟩ := h; exact Nat.le_succ _)
 · unfold makeSliceOp at h
   repeat' split at h
   all_goals first
     | (cases h; done)
     | (simp only [Option.some.injEq, Prod.mk.injEq] at h; obtain ⟨_, rfl⟩ := h; exact Nat.le_succ _)
 · unfold makeMapOp at h
   repeat' split at h
   all_goals first
     | (cases h; done)
     | (simp only [Option.some.injEq, Prod.mk.injEq] at h; obtain ⟨_, rfl⟩ := h; exact Nat.le_succ _)
 · split at h
   · rename_i S2 hS
     simp only [Option.some.injEq, Prod.mk.injEq] at h
     obtain ⟨_, rfl⟩ := h
     unfold updMapOp at hS
     repeat' split at hS
     all_goals first
       | (cases hS; done)
       | (simp only [Option.some.injEq] at hS; subst hS; exact Nat.le_refl _)
   · cases h
 · unfold strBytesOp markOp at h
   repeat' split at h
   all_goals first
     | (cases h; done)
     | (simp only [Option.some.injEq, Prod.mk.injEq] at h; obtain ⟨_, rfl⟩ := h; first | exact Nat.le_succ _ | exact Nat.le_refl _)
     | (rename_i hr; repeat' split at hr
        all_goals first
          | (cases hr; done)
          | (simp only [Option.some.injEq, Prod.mk.injEq] at hr h; subst hr; simp only [Prod.mk.injEq] at h; obtain ⟨_, rfl⟩ := h; exact Nat.le_succ _)
          | (simp only [Option.some.injEq, Prod.mk.injEq] at hr h; obtain ⟨_, rfl⟩ := hr; simp_all; done))
 · split at h
   · cases h
   · split at h
     · rename_i S2 hS
       simp only [Option.some.injEq, Prod.mk.injEq] at h
       obtain ⟨_, rfl⟩ := h
       unfold storeOp at hS
       repeat' split at hS
       all_goals first
         | (cases hS; done)
         | (simp only [Option.some.injEq] at hS; subst hS; exact Nat.le_refl _)
     · cases h
 · split at h
   · unfold appendOp appG at h
     repeat' split at h
     all_goals first
       | (cases h; done)
       | (simp only [Option.some.injEq, Prod.mk.injEq] at h; obtain ⟨_, rfl⟩ := h; first | exact Nat.le_succ _ | exact Nat.le_refl _)
   · cases h
 · cases h
theorem stepOp_fr {A : Ar} {τ : Tab} {nt : Nat} {S S' : St} {o : Oper} (h : stepOp A τ nt S o = some S') : S.fr ≤ S'.fr := by
 have put : ∀ (S : St) (d : Option Nat) (z : AV), (S.put d z).fr = S.fr := fun S d z => by cases d <;> rfl
 unfold stepOp at h
 split at h
 · obtain rfl := Option.some.inj h
   rw [put]; exact Nat.le_refl _
 · split at h
   · rename_i z S2 he
     obtain rfl := Option.some.inj h
     rw [put]; exact effOp_fr he
   · cases h
 · cases h
def askX (dc : List Nat) (S : St) : Operand → Option (Nat × Bool)
 | .tmp d => (match memN d dc with
   | true => none
   | false => (match look d S.t with
     | some (.d (.s (.bool b))) => some (d, b)
     | _ => none))
 | _ => none
def askG (dc : List Nat) (all : List Oper) (S : St) (o : Oper) : Option (Nat × Bool) := match o.guard with
 | none => none
 | some (j, _) => (match all[j]? with
   | some oj => (match oj.dst with
     | some d => askX dc S (.tmp d)
     | none => none)
   | none => none)
def askP (dc : List Nat) (S : St) : Op → Option (Nat × Bool)
 | .pick c _ _ => askX dc S c
 | _ => none
def litO (dc : List Nat) (S : St) : Op → Bool
 | .move x => litX dc x
 | .assign x => litX dc x
 | .unOp .not _ x => litX dc x
 | .pick c x y => (match litX dc c, evl S c with
   | true, .d (.s (.bool b)) => (match b with
     | true => litX dc x
     | false => litX dc y)
   | _, _ => false)
 | _ => false
def delN (n : Nat) : List Nat → List Nat
 | [] => []
 | m :: l => (match Nat.beq m n with
   | true => delN n l
   | false => m :: delN n l)
def dcP (dc : List Nat) (d : Option Nat) (l : Bool) : List Nat := match d with
 | none => dc
 | some d => (match l with
   | true => d :: dc
   | false => delN d dc)
def setT (d : Nat) (x : AV) : List (Nat × AV) → List (Nat × AV)
 | [] => []
 | p :: r => (match Nat.beq p.1 d with
   | true => (p.1, x) :: r
   | false => p :: setT d x r)
theorem setT_id {d : Nat} {x : AV} : ∀ {t : List (Nat × AV)}, look d t = some x → setT d x t = t
 | [], h => by simp [look] at h
 | (i, y) :: r, h => by
   simp only [look] at h
   simp only [setT]
   split at h
   · rename_i e
     obtain rfl := Option.some.inj h
     rw [e]
   · rename_i e
     rw [e]
     simp only [setT_id h]
def St.lit (S : St) (d : Nat) (b : Bool) : St := ⟨setT d (.d (.s (.bool b))) S.t, S.h, S.fr⟩
theorem lit_id {S : St} {d : Nat} {b : Bool} (h : look d S.t = some (.d (.s (.bool b)))) : S.lit d b = S := by
 unfold St.lit
 rw [setT_id h]
theorem askX_look {dc : List Nat} {S : St} {x : Operand} {d : Nat} {b : Bool} (h : askX dc S x = some (d, b)) : look d S.t = some (.d (.s (.bool b))) := by
 unfold askX at h
 split at h
 · split at h
   · cases h
   · split at h
     · rename_i b' hl
       simp only [Option.some.injEq, Prod.mk.injEq] at h
       obtain ⟨rfl, rfl⟩ := h
       exact hl
     · cases h
 · cases h
theorem askG_look {dc : List Nat} {all : List Oper} {S : St} {o : Oper} {d : Nat} {b : Bool} (h : askG dc all S o = some (d, b)) : look d S.t = some (.d (.s (.bool b))) := by
 unfold askG at h
 split at h
 · cases h
 · split at h
   · split at h
     · exact askX_look h
     · cases h
   · cases h
theorem askP_look {dc : List Nat} {S : St} {op : Op} {d : Nat} {b : Bool} (h : askP dc S op = some (d, b)) : look d S.t = some (.d (.s (.bool b))) := by
 unfold askP at h
 split at h
 · exact askX_look h
 · cases h
def viewO (τ : Tab) (S : St) : Op → Option AV
 | .buildSlice t n parts => (match bsView τ t n (evps S parts.toList) with
   | some (k, _, es) => some (.d (.view k es))
   | none => none)
 | _ => none
def stopR (S : St) : Op → Bool
 | .slice _ x _ _ _ => (match evl S x with
   | .row _ _ => true
   | _ => false)
 | .indexAddr _ x _ => (match evl S x with
   | .row _ _ => true
   | _ => false)
 | .convert s d x => (match evl S x with
   | .row _ _ => (match Nat.beq s d with
     | true => false
     | false => true)
   | _ => false)
 | _ => false
def ltH (m : Nat) : List (Nat × Blk) → Bool
 | [] => true
 | p :: r => (match Nat.blt p.1 m, p.2.lt m with
   | true, true => ltH m r
   | _, _ => false)
def callN (G : Tbl) (S : St) (op : Op) : Option (Bool × AV × List (Nat × Blk) × Nat) := match op with
 | .call c => (match c.callee with
   | .value fo => (match fargs (evl S fo) with
     | some (g, fi, ca) => (match look g G with
       | some (.m φ) => (match lts 0 (app3 fi (evls S c.args.toList) ca) with
         | true => (match φ 0 (app3 fi (evls S c.args.toList) ca) [] with
           | some (b, x, h', fr') => (match x.lt fr', ltH fr' h' with
             | true, true => some (b, x, h', fr')
             | _, _ => none)
           | none => none)
         | false => none)
       | _ => none)
     | none => none)
   | _ => none)
 | _ => none
def nxt (N n : Nat) : Nat := N + n
def rngN : Nat → Nat → List Nat
 | _, 0 => []
 | a, n + 1 => a :: rngN (a + 1) n
def runDT (F : Fam) (τ : Tab) (nt : Nat) (G : Tbl) (all : List Oper) (st : Tree) (K : List Oper → List Nat → St → Tree) : Nat → Nat → List Fp → List Nat → List Oper → St → Tree
 | 0, _, _, _, _, _ => st
 | f + 1, j, fps, dc, [], S => (match chkE fps all with
   | true => K [] dc S
   | false => st)
 | f + 1, j, fps, dc, o :: r, S => (match chkTail all j (o :: r) with
   | true => (match chkE fps all with
     | true => K (o :: r) dc S
     | false => st)
   | false => (match askG dc all S o with
     | some (d, b) => .node b (runDT F τ nt G all st K f j fps (d :: dc) (o :: r) (S.lit d true)) (runDT F τ nt G all st K f j fps (d :: dc) (o :: r) (S.lit d false))
     | none => (match (match o.dst with
         | some d => Nat.blt d nt
         | none => true), guardB all S o with
       | true, some true => (match askP dc S o.op with
         | some (d, b) => .node b (runDT F τ nt G all st K f j fps (d :: dc) (o :: r) (S.lit d true)) (runDT F τ nt G all st K f j fps (d :: dc) (o :: r) (S.lit d false))
         | none => (match callT τ G S o.op with
           | some (b, z) => .need b (runDT F τ nt G all st K f (j + 1) (fps ++ [([], [])]) (dcP dc o.dst false) r (S.put o.dst z))
           | none => (match callN G S o.op with
           | some (b, x, h', fr') => .need b (runDT F τ nt G all st K f (j + 1) (fps ++ [([], rngN S.fr fr')]) (dcP dc o.dst false) r (St.put ⟨S.t, appH (renH (nxt S.fr) h') S.h, S.fr + fr'⟩ o.dst (x.ren (nxt S.fr))))
           | none => (match opT F τ dc S o.op with
             | some (b, z) => .need b (runDT F τ nt G all st K f (j + 1) (fps ++ [(topNs S o.op.operands.toList, [])]) (dcP dc o.dst (litO dc S o.op)) r (S.put o.dst z))
             | none => (match viewO τ S o.op with
               | some z => runDT F τ nt G all st K f (j + 1) (fps ++ [([], [])]) (dcP dc o.dst false) r (S.put o.dst z)
               | none => (match stopR S o.op with
                 | true => st
                 | false => (match pureOp (Ar.of F) τ S o.op with
                   | some z => runDT F τ nt G all st K f (j + 1) (fps ++ [(topNs S o.op.operands.toList, [])]) (dcP dc o.dst (litO dc S o.op)) r (S.put o.dst z)
                   | none => (match o.op with
                     | .alloc t => (match look t τ with
                       | some y => (match okZero y with
                         | true => runDT F τ nt G all st K f (j + 1) (fps ++ [([], [S.fr])]) (dcP dc o.dst false) r ((S.new (.cs t (zcells y))).put o.dst (.ptr S.fr 0 0 y.size))
                         | false => st)
                       | none => st)
                     | .store t p x => (match evl S p, sizeAt τ t with
                       | .ptr n i off k, _ + 1 => (match stB F τ dc t i off k (evl S x) (look n S.h) with
                         | some (b, B) => .need b (runDT F τ nt G all st K f (j + 1) (fps ++ [([], [n])]) (dcP dc o.dst false) r ((S.wr n B).put o.dst (.tup [])))
                         | none => (match storeB (Ar.of F) τ t i off k (evl S x) (look n S.h) with
                         | some B => runDT F τ nt G all st K f (j + 1) (fps ++ [([], [n])]) (dcP dc o.dst false) r ((S.wr n B).put o.dst (.tup []))
                         | none => st))
                       | _, _ => st)
                     | _ => st))))))))
       | true, some false => runDT F τ nt G all st K f (j + 1) (fps ++ [([], [])]) (dcP dc o.dst false) r (S.put o.dst (.tup []))
       | _, _ => st)))
def runT (F : Fam) (τ : Tab) (nt : Nat) (fz : Bool) (G : Tbl) (sp : List Nat) : Nat → List Nat → List KI → St → Tree
 | 0, _, k, S => .leaf k S
 | f + 1, dc, k, S => (match k with
   | [] => .leaf [] S
   | .back J :: k => .leaf (.back J :: k) S
   | .blk _ :: k => runT F τ nt fz G sp f dc k S
   | .ops _ [] :: k => runT F τ nt fz G sp f dc k S
   | .ops all (o :: r) :: k => (match askG dc all S o with
     | some (d, b) => .node b (runT F τ nt fz G sp f (d :: dc) (.ops all (o :: r) :: k) (S.lit d true)) (runT F τ nt fz G sp f (d :: dc) (.ops all (o :: r) :: k) (S.lit d false))
     | none => (match (match o.dst with
         | some d => Nat.blt d nt
         | none => true), guardB all S o with
       | true, some true => (match askP dc S o.op with
         | some (d, b) => .node b (runT F τ nt fz G sp f (d :: dc) (.ops all (o :: r) :: k) (S.lit d true)) (runT F τ nt fz G sp f (d :: dc) (.ops all (o :: r) :: k) (S.lit d false))
         | none => (match callT τ G S o.op with
           | some (b, z) => .need b (runT F τ nt fz G sp f (dcP dc o.dst false) (.ops all r :: k) (S.put o.dst z))
           | none => (match callM G S o.op with
             | some (b, z, S') => .need b (runT F τ nt fz G sp f (dcP dc o.dst false) (.ops all r :: k) (S'.put o.dst z))
             | none => (match opT F τ dc S o.op with
               | some (b, z) => .need b (runT F τ nt fz G sp f (dcP dc o.dst (litO dc S o.op)) (.ops all r :: k) (S.put o.dst z))
               | none => (match opE F τ dc S o.op with
                 | some (b, z, S') => .need b (runT F τ nt fz G sp f (dcP dc o.dst false) (.ops all r :: k) (S'.put o.dst z))
                 | none => (match (match fz with
                     | true => viewO τ S o.op
                     | false => none) with
                   | some z => runT F τ nt fz G sp f (dcP dc o.dst false) (.ops all r :: k) (S.put o.dst z)
                   | none => (match stopR S o.op with
                     | true => .leaf (.ops all (o :: r) :: k) S
                     | false => (match stepOp (Ar.of F) τ nt S o with
                       | some S' => runT F τ nt fz G sp f (dcP dc o.dst (litO dc S o.op)) (.ops all r :: k) S'
                       | none => .leaf (.ops all (o :: r) :: k) S))))))))
       | true, some false => runT F τ nt fz G sp f (dcP dc o.dst false) (.ops all r :: k) (S.put o.dst (.tup []))
       | _, _ => .leaf (.ops all (o :: r) :: k) S))
   | .code c :: k => (match c with
     | .skip => runT F τ nt fz G sp f dc k S
     | .seq x y => runT F τ nt fz G sp f dc (.code x :: .code y :: k) S
     | .block id x => runT F τ nt fz G sp f dc (.code x :: .blk id :: k) S
     | .exit id => (match unw id k with
       | some k' => runT F τ nt fz G sp f dc k' S
       | none => .leaf (.code (.exit id) :: k) S)
     | .cond c x y => (match askX dc S c with
       | some (d, b) => .node b (runT F τ nt fz G sp f (d :: dc) (.code x :: k) (S.lit d true)) (runT F τ nt fz G sp f (d :: dc) (.code y :: k) (S.lit d false))
       | none => (match evl S c with
         | .d (.s (.bool b)) => (match b with
           | true => runT F τ nt fz G sp f dc (.code x :: k) S
           | false => runT F τ nt fz G sp f dc (.code y :: k) S)
         | _ => .leaf (.code (.cond c x y) :: k) S))
     | .region id ops dr => (match memN id sp with
       | true => .leaf (.code (.region id ops dr) :: k) S
       | false => (match dr with
       | false => runT F τ nt fz G sp f dc (.ops ops.toList ops.toList :: k) S
       | true => runDT F τ nt G ops.toList (.leaf (.code (.region id ops true) :: k) S) (fun rest dc S => runT F τ nt fz G sp f dc (.ops ops.toList rest :: k) S) 10000 0 [] dc ops.toList S))
     | .label _ => runT F τ nt fz G sp f dc k S
     | c => .leaf (.code c :: k) S))
section
variable {P : Program} [Globs P] {τ : Tab} {cx : Cx P} {Q : Exit → Act → World → Prop}
def AKm (P : Program) [Globs P] (cx : Cx P) (Q : Exit → Act → World → Prop) : Tree → Prop
 | .node b t f => (b = true → AKm P cx Q t) ∧ (b = false → AKm P cx Q f)
 | .need b t => b = true ∧ (b = true → AKm P cx Q t)
 | .leaf k S => AKp P cx Q (k, S)
inductive AKt (P : Program) [Globs P] (cx : Cx P) (Q : Exit → Act → World → Prop) : Tree → Prop where
 | node {b : Bool} {t f : Tree} (h1 : b = true → AKt P cx Q t) (h2 : b = false → AKt P cx Q f) : AKt P cx Q (.node b t f)
 | need {b : Bool} {t : Tree} (h1 : b = true) (h2 : b = true → AKt P cx Q t) : AKt P cx Q (.need b t)
 | leaf {k : List KI} {S : St} (h : AKp P cx Q (k, S)) : AKt P cx Q (.leaf k S)
theorem AKt.m {t : Tree} (h : AKt P cx Q t) : AKm P cx Q t := by
 induction h with
 | node h1 h2 i1 i2 => exact ⟨i1, i2⟩
 | need h1 h2 i2 => exact ⟨h1, i2⟩
 | leaf h => exact h
theorem AKt.have {t : Tree} (h : AKt P cx Q t) : AKt P cx Q (.need true t) := .need rfl fun _ => h
theorem AKt.tt {t f : Tree} (h : AKt P cx Q t) : AKt P cx Q (.node true t f) := .node (fun _ => h) (fun h => by cases h)
theorem AKt.ff {t f : Tree} (h : AKt P cx Q f) : AKt P cx Q (.node false t f) := .node (fun h => by cases h) (fun _ => h)
theorem AKt.yes {b : Bool} {t f : Tree} (hb : b = true) (h : AKt P cx Q t) : AKt P cx Q (.node b t f) := .node (fun _ => h) (fun h' => by rw [hb] at h'; cases h')
theorem AKt.no {b : Bool} {t f : Tree} (hb : b = false) (h : AKt P cx Q f) : AKt P cx Q (.node b t f) := .node (fun h' => by rw [hb] at h'; cases h') (fun _ => h)
abbrev qAh := @AKt.have
abbrev qAt := @AKt.tt
abbrev qAf := @AKt.ff
abbrev qAy := @AKt.yes
abbrev qAn := @AKt.no
abbrev qAd := @AKt.node
abbrev qAe := @AKt.need
abbrev qAl := @AKt.leaf
theorem view_wp (hτ : TabOK P τ) {ι : Io} {S1 : St} {a : Act} {w : World} (H : Rel cx.X cx.L cx.w0 cx.nt ι S1 a w) {o : Oper} {z : AV} (h0 : cx.w0.fr ≤ S1.fr)
   (hv : viewO τ S1 o.op = some z) (hd : ∀ d, o.dst = some d → d < cx.nt) {K : Act → World → Prop} {Q' : Exit → Act → World → Prop}
   (hK : ∀ ι' a' w', Rel cx.X cx.L cx.w0 cx.nt ι' (S1.put o.dst z) a' w' → K a' w') : o.wp P a w K Q' := by
 unfold viewO at hv
 split at hv
 · rename_i t n parts ho
   split at hv
   · rename_i k' e es hbs
     obtain rfl := Option.some.inj hv
     have hop : effOp Ar.real τ S1 o.op = some (.row S1.fr k', S1.new (.ds e k' es)) := by
       rw [ho]
       exact bsView_op hbs S1
     obtain ⟨v, w', ι', hrun, H', hrep⟩ := effOp_run hτ H hop
     have hb : look S1.fr (S1.new (.ds e k' es)).h = some (.ds e k' es) := by simp [St.new, look_cons]
     have hview := H'.hr.view hb hrep
     have H2 := (H'.forget S1.fr).put hd (.d _ _ hview)
     have hne : K (a.put o.dst v) w' → o.wp P a w K Q' := by
       intro hk
       unfold Oper.wp
       rcases hrun with hrun | ⟨hrun, rfl⟩
       · rw [hrun]; exact hk
       · rw [hrun]; exact hk
     refine hne ?_
     have g1 : ∀ i x, look i (S1.put o.dst (.d (.view k' es))).t = some x → look i (St.put ⟨(S1.new (.ds e k' es)).t, del S1.fr (S1.new (.ds e k' es)).h, (S1.new (.ds e k' es)).fr⟩ o.dst (.d (.view k' es))).t = some x ∧ x.lt S1.fr = true := by
       intro i x hx
       refine ⟨?_, ?_⟩
       · rw [← hx]
         cases o.dst <;> rfl
       · cases hdst : o.dst with
         | none =>
           rw [hdst] at hx
           exact (H.tm i x hx).lt_of H.hr.fresh
         | some d =>
           rw [hdst] at hx
           simp only [St.put, look_cons, look_del] at hx
           split at hx
           · obtain rfl := Option.some.inj hx; rfl
           · split at hx
             · cases hx
             · exact (H.tm i x hx).lt_of H.hr.fresh
     have g2 : ∀ n B, look n S1.h = some B → look n (St.put ⟨(S1.new (.ds e k' es)).t, del S1.fr (S1.new (.ds e k' es)).h, (S1.new (.ds e k' es)).fr⟩ o.dst (.d (.view k' es))).h = some B ∧ n < S1.fr ∧ B.lt S1.fr = true := by
       intro n B hn
       obtain ⟨h4, h5⟩ := (H.hr.hp n B hn).lt_of H.hr.fresh
       refine ⟨?_, h4, h5⟩
       have e3 : (St.put ⟨(S1.new (.ds e k' es)).t, del S1.fr (S1.new (.ds e k' es)).h, (S1.new (.ds e k' es)).fr⟩ o.dst (.d (.view k' es))).h = del S1.fr (S1.new (.ds e k' es)).h := by cases o.dst <;> rfl
       rw [e3, look_del, if_neg (by omega)]
       simp only [St.new, look_cons]
       rw [if_neg (by omega)]
       exact hn
     obtain ⟨ι2, H3⟩ := H2.unname g1 g2 h0
     refine hK ι2 _ w' ?_
     have e2 : S1.put o.dst (.d (.view k' es)) = ⟨(S1.put o.dst (.d (.view k' es))).t, S1.h, S1.fr⟩ := by cases o.dst <;> rfl
     rw [e2]
     exact H3
   · cases hv
 · cases hv
theorem viewO_congr {S S' : St} {op : Op} (h : ∀ x, x ∈ op.operands.toList → evl S x = evl S' x) : viewO τ S op = viewO τ S' op := by
 cases op <;> simp only [viewO]
 case buildSlice t n parts =>
   simp only [Op.operands] at h
   rw [evps_congr fun p hp => h p.2 (by simp only [List.mem_map]; exact ⟨p, hp, rfl⟩)]
theorem callA_some {φ : List AV → Option (Bool × AV)} {g : FuncId} {args : List AV} {b : Bool} {z : AV} (hφ : SpOK P g φ) (h : callA φ args = some (b, z)) (hb : b = true) : lts 0 args = true ∧ z.lt 0 = true ∧ ESpec P g args (fun y => y = z) := by
 unfold callA at h
 split at h
 · rename_i b' x hx
   split at h
   · rename_i h1 h2
     simp only [Option.some.injEq, Prod.mk.injEq] at h
     obtain ⟨rfl, rfl⟩ := h
     exact ⟨h1, h2, hφ _ _ _ hx hb⟩
   · cases h
 · cases h
theorem LesA.lt0 : ∀ {xs ys : List AV}, LesA xs ys → lts 0 ys = true → lts 0 xs = true
 | _, _, .nil, h => h
 | _, _, .cons (x := x) (y := y) hx t, h => by
   simp only [lts] at h ⊢
   have e : x.lt 0 = y.lt 0 := by
     cases hx with
     | refl => rfl
     | d _ => rfl
   rw [e]
   split at h
   · exact LesA.lt0 t h
   · cases h
theorem callT_some {G : Tbl} (hG : TblOK P G) {S : St} {op : Op} {b : Bool} {z : AV} (h : callT τ G S op = some (b, z)) (hb : b = true) :
   ∃ c fo g fi ca args, op = .call c ∧ c.callee = .value fo ∧ fargs (evl S fo) = some (g, fi, ca) ∧ app3 fi (evls S c.args.toList) ca = args ∧ lts 0 args = true ∧ z.lt 0 = true ∧ ESpec P g args (fun y => y = z) := by
 unfold callT at h
 split at h
 · rename_i c
   split at h
   · rename_i fo hc
     split at h
     · rename_i g fi ca hf
       split at h
       · rename_i φ hφ
         split at h
         · rename_i r hr
           obtain rfl := Option.some.inj h
           obtain ⟨h1, h2, h3⟩ := callA_some (hG.get hφ) hr hb
           exact ⟨c, fo, g, fi, ca, _, rfl, hc, hf, rfl, h1, h2, h3⟩
         · split at h
           · obtain ⟨h1, h2, h3⟩ := callA_some (hG.get hφ) h hb
             have hle := normAs_le τ c.argTypes.toList (evls S c.args.toList)
             exact ⟨c, fo, g, [], [], _, rfl, hc, hf, rfl, hle.lt0 h1, h2, h3.less hle⟩
           · cases h
       · cases h
     · cases h
   · cases h
 · cases h
theorem DE.callT {G : Tbl} (hG : TblOK P G) {all r : List Oper} {id : Nat} {k : List KI} {S0 S : St} {o : Oper} {b : Bool} {z : AV} {fps : List Fp} (hw0 : cx.w0.fr ≤ S0.fr) (hle : S0.fr ≤ S.fr) (hc : callT τ G S o.op = some (b, z)) (hb : b = true) (hg : guardB all S o = some true)
   (hd : ∀ d, o.dst = some d → d < cx.nt) (next : DE P cx Q all id k S0 (fps ++ [([], [])]) r (S.put o.dst z)) : DE P cx Q all id k S0 fps (o :: r) S := by
 obtain ⟨c, fo, g, fi, ca, args, ho, hcal, hf, ha, hl, hz, sp⟩ := callT_some hG hc hb
 refine DE.still hw0 hz (fun Q' K ι S1 a w H hf1 h1 hK j hj => ?_) hle next
 unfold wpOp
 rw [show all.toArray[j]? = some o by simpa using hj]
 simp only
 rw [guardB_spec H (by rw [guardB_congr h1]; exact hg), if_pos rfl]
 have ev := evl_looks h1
 rw [ho] at ev
 refine .inl (call_wp H sp _root_.id ho hcal hd (fi := fi) (ca := ca) ?_ ?_ hl (fun n hn => absurd hn (by omega)) (fun n B h => by simp [look] at h) (fun n m h => absurd h (by omega)) fun x h' fr' hQ ι' a' w' H' => ?_)
 · rw [ev fo (by simp [Op.operands, Call.operands, hcal])]
   exact hf
 · rw [evls_congr (S' := S) fun x hx => ev x (by simp [Op.operands, Call.operands, Array.mem_toList_iff.1 hx]), ha, rens_lt0 _ _ hl]
 · obtain ⟨rfl, rfl, rfl⟩ := hQ
   rw [ren_lt0 _ _ hz] at H'
   exact hK ι' a' w' (by
     have e : St.after S1 _root_.id 0 [] 0 = S1 := rfl
     rw [← e]; exact H')
mutual
theorem ren_comp (r s : Nat → Nat) : ∀ x : AV, (x.ren s).ren r = x.ren fun n => r (s n)
 | .d x => rfl
 | .agg cs => by simp only [AV.ren, rens_comp r s cs]
 | .tup cs => by simp only [AV.ren, rens_comp r s cs]
 | .ptr n i o k => rfl
 | .opt n => rfl
 | .mp n => rfl
 | .row n k => rfl
 | .own n i l k c => rfl
 | .iface t x => by simp only [AV.ren, ren_comp r s x]
 | .fn f a b => by simp only [AV.ren, rens_comp r s a, rens_comp r s b]
 | .nul => rfl
 | .any => rfl
theorem rens_comp (r s : Nat → Nat) : ∀ l : List AV, rens r (rens s l) = rens (fun n => r (s n)) l
 | [] => rfl
 | x :: l => by simp only [rens, ren_comp r s x, rens_comp r s l]
end
mutual
theorem ren_eqOn {r s : Nat → Nat} {m : Nat} (h : ∀ n, n < m → r n = s n) : ∀ x : AV, x.lt m = true → x.ren r = x.ren s
 | .d x, _ => rfl
 | .agg cs, hl => by simp only [AV.ren, rens_eqOn h cs (by simpa [AV.lt] using hl)]
 | .tup cs, hl => by simp only [AV.ren, rens_eqOn h cs (by simpa [AV.lt] using hl)]
 | .ptr n i o k, hl => by simp only [AV.ren, h n (blt_lt hl)]
 | .opt n, hl => by simp only [AV.ren, h n (blt_lt hl)]
 | .mp n, hl => by simp only [AV.ren, h n (blt_lt hl)]
 | .row n k, hl => by simp only [AV.ren, h n (blt_lt hl)]
 | .own n i l k c, hl => by simp only [AV.ren, h n (blt_lt hl)]
 | .iface t x, hl => by simp only [AV.ren, ren_eqOn h x (by simpa [AV.lt] using hl)]
 | .fn f a b, hl => by
   simp only [AV.lt] at hl
   split at hl
   · rename_i h1
     simp only [AV.ren, rens_eqOn h a h1, rens_eqOn h b hl]
   · cases hl
 | .nul, _ => rfl
 | .any, _ => rfl
theorem rens_eqOn {r s : Nat → Nat} {m : Nat} (h : ∀ n, n < m → r n = s n) : ∀ l : List AV, lts m l = true → rens r l = rens s l
 | [], _ => rfl
 | x :: l, hl => by
   simp only [lts] at hl
   split at hl
   · rename_i h1
     simp only [rens, ren_eqOn h x h1, rens_eqOn h l hl]
   · cases hl
end
mutual
theorem ren_ltN {r : Nat → Nat} {m q : Nat} (h : ∀ n, n < m → r n < q) : ∀ x : AV, x.lt m = true → (x.ren r).lt q = true
 | .d x, _ => rfl
 | .agg cs, hl => by simp only [AV.ren, AV.lt, rens_ltN h cs (by simpa [AV.lt] using hl)]
 | .tup cs, hl => by simp only [AV.ren, AV.lt, rens_ltN h cs (by simpa [AV.lt] using hl)]
 | .ptr n i o k, hl => by simpa [AV.ren, AV.lt, Nat.blt_eq] using h n (blt_lt hl)
 | .opt n, hl => by simpa [AV.ren, AV.lt, Nat.blt_eq] using h n (blt_lt hl)
 | .mp n, hl => by simpa [AV.ren, AV.lt, Nat.blt_eq] using h n (blt_lt hl)
 | .row n k, hl => by simpa [AV.ren, AV.lt, Nat.blt_eq] using h n (blt_lt hl)
 | .own n i l k c, hl => by simpa [AV.ren, AV.lt, Nat.blt_eq] using h n (blt_lt hl)
 | .iface t x, hl => by simp only [AV.ren, AV.lt, ren_ltN h x (by simpa [AV.lt] using hl)]
 | .fn f a b, hl => by
   simp only [AV.lt] at hl
   split at hl
   · rename_i h1
     simp only [AV.ren, AV.lt, rens_ltN h a h1, rens_ltN h b hl]
   · cases hl
 | .nul, _ => rfl
 | .any, _ => rfl
theorem rens_ltN {r : Nat → Nat} {m q : Nat} (h : ∀ n, n < m → r n < q) : ∀ l : List AV, lts m l = true → lts q (rens r l) = true
 | [], _ => rfl
 | x :: l, hl => by
   simp only [lts] at hl
   split at hl
   · rename_i h1
     simp only [rens, lts, ren_ltN h x h1, rens_ltN h l hl]
   · cases hl
end
theorem bren_eqOn {r s : Nat → Nat} {m : Nat} (h : ∀ n, n < m → r n = s n) {B : Blk} (hl : B.lt m = true) : B.ren r = B.ren s := by
 cases B with
 | cs T l => simp only [Blk.ren, rens_eqOn h l hl]
 | ds E k es => rfl
 | xs E k q es l => simp only [Blk.ren, rens_eqOn h l hl]
 | mp f => rfl
theorem bren_comp (r s : Nat → Nat) (B : Blk) : (B.ren s).ren r = B.ren fun n => r (s n) := by
 cases B with
 | cs T l => simp only [Blk.ren, rens_comp]
 | ds E k es => rfl
 | xs E k q es l => simp only [Blk.ren, rens_comp]
 | mp f => rfl
theorem bren_ltN {r : Nat → Nat} {m q : Nat} (h : ∀ n, n < m → r n < q) {B : Blk} (hl : B.lt m = true) : (B.ren r).lt q = true := by
 cases B with
 | cs T l => exact rens_ltN h l hl
 | ds E k es => rfl
 | xs E k q es l => exact rens_ltN h l hl
 | mp f => rfl
theorem ltH_get {m : Nat} : ∀ {h : List (Nat × Blk)}, ltH m h = true → ∀ n B, look n h = some B → n < m ∧ B.lt m = true
 | [], _, n, B, hl => by simp [look] at hl
 | p :: r, H, n, B, hl => by
   unfold ltH at H
   split at H
   · rename_i h1 h2
     rw [look_cons] at hl
     split at hl
     · rename_i e
       obtain rfl := Option.some.inj hl
       exact ⟨e ▸ blt_lt h1, h2⟩
     · exact ltH_get H n B hl
   · cases H
theorem nxt_inj (N : Nat) : ∀ i j, nxt N i = nxt N j → i = j := fun i j h => by simp only [nxt] at h; omega
theorem look_renN (N m : Nat) : ∀ (h : List (Nat × Blk)), look (N + m) (renH (nxt N) h) = (look m h).map (Blk.ren (nxt N))
 | [] => rfl
 | p :: r => by
   simp only [renH, look_cons, look_renN N m r, nxt]
   by_cases e : p.1 = m
   · rw [if_pos (by omega), if_pos e]; rfl
   · rw [if_neg (by omega), if_neg e]
theorem look_renN_lt {N n : Nat} (hn : n < N) : ∀ (h : List (Nat × Blk)), look n (renH (nxt N) h) = none
 | [] => rfl
 | p :: r => by
   simp only [renH, look_cons, look_renN_lt hn r, nxt]
   rw [if_neg (by omega)]
theorem rngN_mem {n : Nat} : ∀ {k a : Nat}, n ∈ rngN a k ↔ a ≤ n ∧ n < a + k
 | 0, a => by simp [rngN]; try omega
 | k + 1, a => by rw [rngN, List.mem_cons, rngN_mem]; omega
theorem callN_some {G : Tbl} (hG : TblOK P G) {S : St} {op : Op} {b : Bool} {x : AV} {h' : List (Nat × Blk)} {fr' : Nat} (h : callN G S op = some (b, x, h', fr')) (hb : b = true) :
   ∃ c fo g fi ca args, op = .call c ∧ c.callee = .value fo ∧ fargs (evl S fo) = some (g, fi, ca) ∧ app3 fi (evls S c.args.toList) ca = args ∧ lts 0 args = true ∧ x.lt fr' = true ∧ ltH fr' h' = true ∧
     ASpec P g args [] 0 (fun y h1 fr1 => y = x ∧ h1 = h' ∧ fr1 = fr') := by
 unfold callN at h
 split at h
 · rename_i c
   split at h
   · rename_i fo hc
     split at h
     · rename_i g fi ca hf
       split at h
       · rename_i φ hφ
         split at h
         · rename_i hl
           split at h
           · rename_i b1 x1 h1 fr1 hx
             split at h
             · rename_i hx1 hx2
               simp only [Option.some.injEq, Prod.mk.injEq] at h
               obtain ⟨rfl, rfl, rfl, rfl⟩ := h
               exact ⟨c, fo, g, fi, ca, _, rfl, hc, hf, rfl, hl, hx1, hx2, hG.get hφ _ _ _ _ _ _ _ hx hb⟩
             · cases h
           · cases h
         · cases h
       · cases h
     · cases h
   · cases h
 · cases h
theorem DE.callN {G : Tbl} (hG : TblOK P G) {all r : List Oper} {id : Nat} {k : List KI} {S0 S : St} {o : Oper} {b : Bool} {x : AV} {h' : List (Nat × Blk)} {fr' : Nat} {fps : List Fp} (hw0 : cx.w0.fr ≤ S0.fr) (hle : S0.fr ≤ S.fr)
   (hc : callN G S o.op = some (b, x, h', fr')) (hb : b = true) (hg : guardB all S o = some true) (hd : ∀ d, o.dst = some d → d < cx.nt)
   (next : DE P cx Q all id k S0 (fps ++ [([], rngN S.fr fr')]) r (St.put ⟨S.t, appH (renH (nxt S.fr) h') S.h, S.fr + fr'⟩ o.dst (x.ren (nxt S.fr)))) : DE P cx Q all id k S0 fps (o :: r) S := by
 obtain ⟨c, fo, g, fi, ca, args, ho, hcal, hf, ha, hl, hx, hh, sp⟩ := callN_some hG hc hb
 refine DE.snoc (x.ren (nxt S.fr)) _ ([], rngN S.fr fr') (fun j hj => ⟨by cases o.dst <;> rfl, fun q hq => ?_, by rw [put_fr]; exact Nat.le_add_right _ _, ?_⟩) next
 · rw [put_h, look_app]
   have hq' : ¬ (S.fr ≤ q ∧ q < S.fr + fr') := fun e => hq (rngN_mem.2 e)
   have : look q (renH (nxt S.fr) h') = none := by
     rcases Nat.lt_or_ge q S.fr with h1 | h1
     · exact look_renN_lt h1 _
     · rw [show q = S.fr + (q - S.fr) by omega, look_renN]
       cases hq2 : look (q - S.fr) h' with
       | none => rfl
       | some B => have := (ltH_get hh _ _ hq2).1; omega
   rw [this]
 intro Q' K ι S1 a w H hfr h1 h2 h3 hK
 rw [put_fr] at hfr h3
 simp only at hfr h3
 unfold wpOp
 rw [show all.toArray[j]? = some o by simpa using hj]
 simp only
 rw [guardB_spec H (by rw [guardB_congr h1]; exact hg), if_pos rfl]
 have ev := evl_looks h1
 rw [ho] at ev
 refine .inl (call_wp H sp _root_.id ho hcal hd (fi := fi) (ca := ca) ?_ ?_ hl (fun n hn => absurd hn (by omega)) (fun n B h => by simp [look] at h) (fun n m h => absurd h (by omega)) fun x1 h1' fr1 hQ ι' a' w' H' => ?_)
 · rw [ev fo (by simp [Op.operands, Call.operands, hcal])]
   exact hf
 · rw [evls_congr (S' := S) fun x hx => ev x (by simp [Op.operands, Call.operands, Array.mem_toList_iff.1 hx]), ha, rens_lt0 _ _ hl]
 · obtain ⟨rfl, rfl, rfl⟩ := hQ
   have esh : ∀ n, shift _root_.id 0 S1.fr n = nxt S1.fr n := fun n => by
     unfold shift nxt
     cases hn : Nat.blt n 0 with
     | true => have := blt_lt hn; omega
     | false => rfl
   have eshf : shift _root_.id 0 S1.fr = nxt S1.fr := funext esh
   have e1 : St.after S1 _root_.id 0 h1' fr1 = ⟨S1.t, appH (renH (nxt S1.fr) h1') S1.h, S1.fr + fr1⟩ := by
     unfold St.after
     rw [eshf]
     rfl
   rw [eshf, e1] at H'
   let rr : Nat → Nat := fun n => if S.fr ≤ n ∧ n < S.fr + fr1 then S1.fr + (n - S.fr) else if S0.fr ≤ n ∧ (ι n).isNone = true then S1.fr + fr1 + n + 1 else n
   have rN : ∀ m, m < fr1 → rr (S.fr + m) = S1.fr + m := fun m hm => by
     show (if S.fr ≤ S.fr + m ∧ S.fr + m < S.fr + fr1 then S1.fr + (S.fr + m - S.fr) else _) = _
     rw [if_pos (by omega)]; omega
   have rO : ∀ n p, ι n = some p → rr n = n := fun n p h => by
     show (if S.fr ≤ n ∧ n < S.fr + fr1 then _ else if S0.fr ≤ n ∧ (ι n).isNone = true then _ else n) = n
     rw [if_neg (fun e => by rw [h3 n e.1 e.2] at h; cases h), h, if_neg (by simp)]
   have old : ∀ n B, look n S1.h = some B → n < S1.fr ∧ B.lt S1.fr = true ∧ rr n = n ∧ B.ren rr = B := fun n B hB => by
     have hb := H.hr.hp n B hB
     obtain ⟨g1, g2⟩ := hb.lt_of H.hr.fresh
     obtain ⟨g3, g4⟩ := RepB.fix rO hb
     exact ⟨g1, g2, g3, g4⟩
   have notN : ∀ n, (look n S1.h).isSome = true → ¬ (S.fr ≤ n ∧ n < S.fr + fr1) := fun n hn e => by
     obtain ⟨B, hB⟩ := Option.isSome_iff_exists.1 hn
     cases H.hr.hp n B hB with
     | cs T cells b cap l cur hi => rw [h3 n e.1 e.2] at hi; cases hi
     | ds0 E k hi => rw [h3 n e.1 e.2] at hi; cases hi
     | ds E k es b cap cur hi => rw [h3 n e.1 e.2] at hi; cases hi
     | xs E k m es cells b cap cur hi => rw [h3 n e.1 e.2] at hi; cases hi
     | xs0 E k m cells hi => rw [h3 n e.1 e.2] at hi; cases hi
     | mp f b c l es clock hi => rw [h3 n e.1 e.2] at hi; cases hi
   obtain ⟨S2, hS2⟩ : ∃ S2, S2 = St.put ⟨S1.t, appH (renH (nxt S.fr) h1') S1.h, S1.fr⟩ o.dst (x1.ren (nxt S.fr)) := ⟨_, rfl⟩
   have hle2 : St.le rr (St.put ⟨S1.t, appH (renH (nxt S1.fr) h1') S1.h, S1.fr + fr1⟩ o.dst (x1.ren (nxt S1.fr))) S2 := by
     subst hS2
     have hxr : (x1.ren (nxt S.fr)).ren rr = x1.ren (nxt S1.fr) := by
       rw [ren_comp]
       exact ren_eqOn (m := fr1) (fun n hn => rN n hn) x1 hx
     have hxl : (x1.ren (nxt S.fr)).lt S1.fr = true := ren_ltN (m := fr1) (fun n hn => by simp only [nxt]; omega) x1 hx
     refine ⟨fun t y h => ?_, fun n B hB => ?_, fun n m g1 g2 g3 => ?_⟩
     · rw [put_fr]
       have key : ∀ y, look t S1.t = some y → y.lt S1.fr = true ∧ y.ren rr = y := fun y h => by
         have hv := H.tm t y h
         exact ⟨hv.lt_of H.hr.fresh, RepV.fix rO _ _ hv⟩
       cases hdst : o.dst with
       | none =>
         rw [hdst] at h
         obtain ⟨g1, g2⟩ := key y h
         exact ⟨g1, .inl (by rw [g2]; exact h)⟩
       | some d =>
         rw [hdst] at h
         simp only [St.put, look_cons, look_del] at h ⊢
         split at h
         · rename_i e
           obtain rfl := Option.some.inj h
           exact ⟨hxl, .inl (by rw [if_pos e, hxr])⟩
         · rename_i e
           split at h
           · cases h
           · rename_i e2
             obtain ⟨g1, g2⟩ := key y h
             exact ⟨g1, .inl (by rw [if_neg e, if_neg e2, g2]; exact h)⟩
     · rw [put_h] at hB
       rw [put_fr, put_h]
       rw [look_app] at hB
       split at hB
       · rename_i B1 hB1
         obtain rfl := Option.some.inj hB
         obtain ⟨m, B0, q1, q2, q3⟩ := look_renH (nxt_inj S.fr) n h1' _ hB1
         obtain ⟨q4, q5⟩ := ltH_get hh m B0 q2
         have q1' : n = S.fr + m := q1.symm
         subst q1'
         refine ⟨by show S.fr + m < S1.fr; omega, by rw [q3]; exact bren_ltN (m := fr1) (fun n hn => by simp only [nxt]; omega) q5, ?_⟩
         rw [rN m q4, look_app, look_renN, q2]
         show some _ = some _
         rw [q3, bren_comp]
         congr 1
         exact (bren_eqOn (m := fr1) (fun n hn => rN n hn) q5).symm
       · rename_i hn
         obtain ⟨q1, q2, q3, q4⟩ := old n B hB
         refine ⟨q1, q2, ?_⟩
         rw [q3, q4, look_app, look_renN_lt q1]
         exact hB
     · rw [put_h] at g1 g2
       have cl : ∀ n, (look n (appH (renH (nxt S.fr) h1') S1.h)).isSome = true → (∃ m, m < fr1 ∧ n = S.fr + m) ∨ (rr n = n ∧ n < S1.fr) := fun n hn => by
         rw [look_app] at hn
         split at hn
         · rename_i B1 hB1
           obtain ⟨m, B0, q1, q2, q3⟩ := look_renH (nxt_inj S.fr) n h1' _ hB1
           exact .inl ⟨m, (ltH_get hh m B0 q2).1, q1.symm⟩
         · obtain ⟨B, hB⟩ := Option.isSome_iff_exists.1 hn
           obtain ⟨q1, q2, q3, q4⟩ := old n B hB
           exact .inr ⟨q3, q1⟩
       rcases cl n g1 with ⟨i, hi, rfl⟩ | ⟨a1, a2⟩ <;> rcases cl m g2 with ⟨j, hj, rfl⟩ | ⟨b1, b2⟩
       · rw [rN i hi, rN j hj] at g3; omega
       · rw [rN i hi, b1] at g3; omega
       · rw [rN j hj, a1] at g3; omega
       · rw [a1, b1] at g3; exact g3
   have hold : ∀ n, n < cx.w0.fr → n < S2.fr ∧ rr n = n := fun n hn => by
     subst hS2
     rw [put_fr]
     refine ⟨by show n < S1.fr; omega, ?_⟩
     show (if S.fr ≤ n ∧ n < S.fr + fr1 then _ else if S0.fr ≤ n ∧ (ι n).isNone = true then _ else n) = n
     rw [if_neg (by omega), if_neg (by omega)]
   obtain ⟨l1, l2, l3⟩ := hle2
   obtain ⟨g1, g2, g3⟩ := H'.hr.keep hold l2 l3
   have fin : Rel cx.X cx.L cx.w0 cx.nt (fun n => if n < S2.fr then ι' (rr n) else none) S2 a' w' := by
     refine ⟨g1, fun t y hy => ?_, H'.sz, H'.df⟩
     obtain ⟨h4, h5⟩ := l1 t y hy
     rcases h5 with h5 | rfl
     · exact ((H'.tm t _ h5).ren_inv g3 y h4 rfl).mono g2 (fun _ _ h => h)
     · exact .any _
   refine hK _ a' w' S2 ?_ (fun q hq => ?_) (fun q hq => ?_) ?_ (fun q hq hι hout => ?_) fin
   · subst hS2; cases o.dst <;> rfl
   · subst hS2
     rw [put_h, put_h, look_app, look_app]
     have hq' := rngN_mem.1 hq
     rw [show q = S.fr + (q - S.fr) by omega]
     cases hB : look (S.fr + (q - S.fr)) (renH (nxt S.fr) h1') with
     | some B => rfl
     | none => exact h2 _ (.inr (by rw [show S.fr + (q - S.fr) = q by omega]; exact hq))
   · subst hS2
     rw [put_h, look_app]
     have hq' : ¬ (S.fr ≤ q ∧ q < S.fr + fr1) := fun e => hq (rngN_mem.2 e)
     have : look q (renH (nxt S.fr) h1') = none := by
       rcases Nat.lt_or_ge q S.fr with e | e
       · exact look_renN_lt e _
       · rw [show q = S.fr + (q - S.fr) by omega, look_renN]
         cases hq2 : look (q - S.fr) h1' with
         | none => rfl
         | some B => have := (ltH_get hh _ _ hq2).1; omega
     rw [this]
   · subst hS2; rw [put_fr]
   · rw [put_fr] at hout
     simp only at hout
     show (if q < S2.fr then ι' (rr q) else none) = none
     split
     · have er : rr q = S1.fr + fr1 + q + 1 := by
         show (if S.fr ≤ q ∧ q < S.fr + fr1 then _ else if S0.fr ≤ q ∧ (ι q).isNone = true then _ else q) = _
         rw [if_neg (by omega), hι, if_pos ⟨hq, rfl⟩]
       rw [er]
       exact H'.hr.fresh _ (by rw [put_fr]; show S1.fr + fr1 ≤ _; omega)
     · rfl
theorem viewO_lt {S : St} {op : Op} {z : AV} (hv : viewO τ S op = some z) : z.lt 0 = true := by
 unfold viewO at hv
 split at hv
 · split at hv
   · obtain rfl := Option.some.inj hv
     rfl
   · cases hv
 · cases hv
theorem DE.viewO (hτ : TabOK P τ) {all r : List Oper} {id : Nat} {k : List KI} {S0 S : St} {o : Oper} {z : AV} {fps : List Fp} (hw0 : cx.w0.fr ≤ S0.fr) (hle : S0.fr ≤ S.fr)
   (hv : viewO τ S o.op = some z) (hg : guardB all S o = some true) (hd : ∀ d, o.dst = some d → d < cx.nt)
   (next : DE P cx Q all id k S0 (fps ++ [([], [])]) r (S.put o.dst z)) : DE P cx Q all id k S0 fps (o :: r) S := by
 refine DE.still hw0 (viewO_lt hv) (fun Q' K ι S1 a w H hf1 h1 hK j hj => ?_) hle next
 unfold wpOp
 rw [show all.toArray[j]? = some o by simpa using hj]
 simp only
 rw [guardB_spec H (by rw [guardB_congr h1]; exact hg), if_pos rfl]
 have ev := evl_looks h1
 exact .inl (view_wp hτ H (by omega) (by rw [viewO_congr ev]; exact hv) hd hK)
theorem lit_fr (S : St) (d : Nat) (b : Bool) : (S.lit d b).fr = S.fr := rfl
theorem runDT_ok (hτ : TabOK P τ) (hm : P.follows .mixedOrders = true) {G : Tbl} (hG : TblOK P G) {all : List Oper} {id : Nat} {k : List KI} {S0 : St} (hw0 : cx.w0.fr ≤ S0.fr) {st : Tree} {K : List Oper → List Nat → St → Tree}
   (hst : AKm P cx Q st → AK P cx Q (.code (.region id all.toArray true) :: k) S0) (hK : ∀ rest dc S, cx.w0.fr ≤ S.fr → AKm P cx Q (K rest dc S) → AK P cx Q (.ops all rest :: k) S) :
   ∀ (f j : Nat) (fps : List Fp) (dc : List Nat) (r : List Oper) (S : St), S0.fr ≤ S.fr → AKm P cx Q (runDT Fam.real τ cx.nt G all st K f j fps dc r S) → DE P cx Q all id k S0 fps r S
 | 0, j, fps, dc, r, S, h0, h => fun _ _ _ _ _ _ => hst (by unfold runDT at h; exact h)
 | f + 1, j, fps, dc, [], S, h0, h => by
   unfold runDT at h
   split at h
   · rename_i hc
     exact DE.fin hm hc (hK _ _ _ (Nat.le_trans hw0 h0) h)
   · exact fun _ _ _ _ _ _ => hst h
 | f + 1, j, fps, dc, o :: r, S, h0, h => by
   have ih := runDT_ok hτ hm hG hw0 hst hK f
   have hp : ∀ z, S0.fr ≤ (S.put o.dst z).fr := fun z => by rw [put_fr]; exact h0
   have ask : ∀ (d : Nat) (b : Bool), look d S.t = some (.d (.s (.bool b))) → AKm P cx Q (.node b (runDT Fam.real τ cx.nt G all st K f j fps (d :: dc) (o :: r) (S.lit d true)) (runDT Fam.real τ cx.nt G all st K f j fps (d :: dc) (o :: r) (S.lit d false))) → DE P cx Q all id k S0 fps (o :: r) S := by
     intro d b hl h
     cases b
     · have := ih _ _ _ _ _ (by rw [lit_fr]; exact h0) (h.2 rfl)
       rwa [lit_id hl] at this
     · have := ih _ _ _ _ _ (by rw [lit_fr]; exact h0) (h.1 rfl)
       rwa [lit_id hl] at this
   unfold runDT at h
   split at h
   · split at h
     · rename_i hc
       exact DE.fin hm hc (hK _ _ _ (Nat.le_trans hw0 h0) h)
     · exact fun _ _ _ _ _ _ => hst h
   · split at h
     · rename_i d b hask
       exact ask d b (askG_look hask) h
     · split at h
       · rename_i hd hg
         split at h
         · rename_i d b hask
           exact ask d b (askP_look hask) h
         · split at h
           · rename_i b z hc
             exact DE.callT hG hw0 h0 hc h.1 hg (dst_lt hd) (ih _ _ _ _ _ (hp _) (h.2 h.1))
           · split at h
             · rename_i b x h' fr' hc
               exact DE.callN hG hw0 h0 hc h.1 hg (dst_lt hd) (ih _ _ _ _ _ (by rw [put_fr]; exact Nat.le_trans h0 (Nat.le_add_right _ _)) (h.2 h.1))
             split at h
             · rename_i b z hc
               exact DE.pure hτ (opT_pure hc h.1) hg (dst_lt hd) (ih _ _ _ _ _ (hp _) (h.2 h.1))
             · split at h
               · rename_i z hv
                 exact DE.viewO hτ hw0 h0 hv hg (dst_lt hd) (ih _ _ _ _ _ (hp _) h)
               · split at h
                 · exact fun _ _ _ _ _ _ => hst h
                 · split at h
                   · rename_i z hz
                     exact DE.pure hτ hz hg (dst_lt hd) (ih _ _ _ _ _ (hp _) h)
                   · split at h
                     · rename_i t ho
                       split at h
                       · rename_i y hy
                         split at h
                         · rename_i hz
                           exact DE.alloc hτ ho hy hz hg (dst_lt hd) (ih _ _ _ _ _ (by rw [put_fr]; exact Nat.le_trans h0 (Nat.le_succ _)) h)
                         · exact fun _ _ _ _ _ _ => hst h
                       · exact fun _ _ _ _ _ _ => hst h
                     · rename_i t p x ho
                       split at h
                       · rename_i n i off k' m hp' hs
                         split at h
                         · rename_i b0 B hB
                           exact DE.store hτ ho hp' hs (stB_ok hB h.1) hg (dst_lt hd) (ih _ _ _ _ _ (by rw [put_fr]; exact h0) (h.2 h.1))
                         split at h
                         · rename_i B hB
                           exact DE.store hτ ho hp' hs hB hg (dst_lt hd) (ih _ _ _ _ _ (by rw [put_fr]; exact h0) h)
                         · exact fun _ _ _ _ _ _ => hst h
                       · exact fun _ _ _ _ _ _ => hst h
                     · exact fun _ _ _ _ _ _ => hst h
       · rename_i hd hg
         exact DE.skip hg (dst_lt hd) (ih _ _ _ _ _ (hp _) h)
       · exact fun _ _ _ _ _ _ => hst h
theorem stepOp_pure {S : St} {nt : Nat} {o : Oper} {z : AV} (hz : pureOp Ar.real τ S o.op = some z) (hd : (match o.dst with
     | some d => Nat.blt d nt
     | none => true) = true) : stepOp Ar.real τ nt S o = some (S.put o.dst z) := by
 unfold stepOp
 rw [hz]
 cases hdst : o.dst with
 | none => rfl
 | some d =>
   rw [hdst] at hd
   simp only at hd ⊢
   rw [hd]
theorem stepOp_eff {S S' : St} {nt : Nat} {o : Oper} {z : AV} (hz : pureOp Ar.real τ S o.op = none) (he : effOp Ar.real τ S o.op = some (z, S')) (hd : (match o.dst with
     | some d => Nat.blt d nt
     | none => true) = true) : stepOp Ar.real τ nt S o = some (S'.put o.dst z) := by
 unfold stepOp
 rw [hz, he]
 cases hdst : o.dst with
 | none => rfl
 | some d =>
   rw [hdst] at hd
   simp only at hd ⊢
   rw [hd]
theorem AK.stepT (hτ : TabOK P τ) (hm : P.follows .mixedOrders = true) {G : Tbl} (hG : TblOK P G) (fz : Bool) (sp : List Nat) : ∀ (f : Nat) (dc : List Nat) (k : List KI) (S : St), cx.w0.fr ≤ S.fr → AKm P cx Q (runT Fam.real τ cx.nt fz G sp f dc k S) → AK P cx Q k S := by
 intro f
 induction f with
 | zero => intro dc k S h0 h; exact h
 | succ f ih =>
   intro dc k S h0 h
   unfold runT at h
   split at h
   · exact h
   · exact h
   · rename_i id k
     have := ih _ _ _ h0 h
     intro ι a w H
     exact this ι a w H
   · rename_i all k
     have := ih _ _ _ h0 h
     intro ι a w H
     exact this ι a w H
   · rename_i all o r k
     have ask : ∀ (d : Nat) (b : Bool), look d S.t = some (.d (.s (.bool b))) → AKm P cx Q (.node b (runT Fam.real τ cx.nt fz G sp f (d :: dc) (.ops all (o :: r) :: k) (S.lit d true)) (runT Fam.real τ cx.nt fz G sp f (d :: dc) (.ops all (o :: r) :: k) (S.lit d false))) → AK P cx Q (.ops all (o :: r) :: k) S := by
       intro d b hl h
       cases b
       · have := ih _ _ _ (by exact h0) (h.2 rfl)
         rwa [lit_id hl] at this
       · have := ih _ _ _ (by exact h0) (h.1 rfl)
         rwa [lit_id hl] at this
     have step : ∀ {S' : St}, stepOp Ar.real τ cx.nt S o = some S' → guardB all S o = some true → AK P cx Q (.ops all r :: k) S' → AK P cx Q (.ops all (o :: r) :: k) S := by
       intro S' hS hg this ι a w H
       show wpList P all.toArray (den P cx Q k) (o :: r) a w
       unfold wpList
       rw [guardB_spec H hg, if_pos rfl]
       exact .inl (stepOp_wp hτ H hS fun ι' a' w' H' => this ι' a' w' H')
     split at h
     · rename_i d b hask
       exact ask d b (askG_look hask) h
     · split at h
       · rename_i hd hg
         split at h
         · rename_i d b hask
           exact ask d b (askP_look hask) h
         · split at h
           · rename_i b z hc
             obtain ⟨c, fo, g, fi, ca, args, ho, hcal, hf, ha, hl, hz, sp⟩ := callT_some hG hc h.1
             have := ih _ _ _ (by rw [put_fr]; exact h0) (h.2 h.1)
             refine AK.call0 sp ho hcal hg (dst_lt hd) hf (by rw [ha, rens_lt0 _ _ hl]) hl ?_
             rintro x h' fr' ⟨rfl, rfl, rfl⟩
             rw [ren_lt0 _ _ hz]
             exact this
           · split at h
             · rename_i b z S' hc
               obtain ⟨c, fo, g, fi, ca, args, hh, ns, x, h', fr', ho, hcal, hf, ha, hl, hall, hhh, hinj, sp, rfl, rfl⟩ := callM_some hG hc h.1
               have := ih _ _ _ (by rw [put_fr]; exact Nat.le_trans h0 (Nat.le_add_right _ _)) (h.2 h.1)
               refine AK.call sp (nthN ns) ho hcal hg (dst_lt hd) hf ha hl hall hhh hinj ?_
               rintro x h' fr' ⟨rfl, rfl, rfl⟩
               exact this
             · split at h
               · rename_i b z hc
                 exact step (stepOp_pure (opT_pure hc h.1) hd) hg (ih _ _ _ (by rw [put_fr]; exact h0) (h.2 h.1))
               · split at h
                 · rename_i b z S' hc
                   obtain ⟨h1, h2⟩ := opE_ok hc h.1
                   exact step (stepOp_eff h2 h1 hd) hg (ih _ _ _ (by rw [put_fr]; exact Nat.le_trans h0 (effOp_fr h1)) (h.2 h.1))
                 · split at h
                   · rename_i z hv
                     have hv : viewO τ S o.op = some z := by
                       split at hv
                       · exact hv
                       · cases hv
                     have := ih _ _ _ (by rw [put_fr]; exact h0) h
                     intro ι a w H
                     show wpList P all.toArray (den P cx Q k) (o :: r) a w
                     unfold wpList
                     rw [guardB_spec H hg, if_pos rfl]
                     exact .inl (view_wp hτ H h0 hv (dst_lt hd) fun ι' a' w' H' => this ι' a' w' H')
                   · split at h
                     · exact h
                     · split at h
                       · rename_i S' hS
                         exact step hS hg (ih _ _ _ (Nat.le_trans h0 (stepOp_fr hS)) h)
                       · exact h
       · rename_i hd hg
         have := ih _ _ _ (by rw [put_fr]; exact h0) h
         intro ι a w H
         show wpList P all.toArray (den P cx Q k) (o :: r) a w
         unfold wpList
         rw [guardB_spec H hg, if_neg (by simp)]
         refine this ι _ w (H.put (fun n hn => ?_) ?_)
         · rw [hn] at hd
           exact blt_lt hd
         · exact .tup [] [] rfl (by simp)
       · exact h
   · rename_i c k
     split at h
     · have := ih _ _ _ h0 h
       intro ι a w H
       exact wp_skip (this ι a w H)
     · rename_i x y
       have := ih _ _ _ h0 h
       intro ι a w H
       exact den_seq (this ι a w H)
     · rename_i id x
       have := ih _ _ _ h0 h
       intro ι a w H
       exact wp_block (this ι a w H)
     · rename_i id
       split at h
       · rename_i k' hk
         have := ih _ _ _ h0 h
         intro ι a w H
         exact wp_exit (den_exit id k k' hk a w (this ι a w H))
       · exact h
     · rename_i c x y
       have cond : ∀ b : Bool, evl S c = .d (.s (.bool b)) → (b = true → AK P cx Q (.code x :: k) S) → (b = false → AK P cx Q (.code y :: k) S) → AK P cx Q (.code (.cond c x y) :: k) S := by
         intro b hc h1 h2 ι a w H
         have he := H.evl c
         rw [hc] at he
         cases b
         · exact wp_cond (rep_s he) (h2 rfl ι a w H)
         · exact wp_cond (rep_s he) (h1 rfl ι a w H)
       split at h
       · rename_i d b hask
         have hl := askX_look hask
         have hc : evl S c = .d (.s (.bool b)) := by
           unfold askX at hask
           split at hask
           · rename_i d'
             split at hask
             · cases hask
             · split at hask
               · rename_i b' hl'
                 simp only [Option.some.injEq, Prod.mk.injEq] at hask
                 obtain ⟨rfl, rfl⟩ := hask
                 simp only [evl, hl']
               · cases hask
           · cases hask
         refine cond b hc (fun hb => ?_) (fun hb => ?_)
         · subst hb
           have := ih _ _ _ (by exact h0) (h.1 rfl)
           rwa [lit_id hl] at this
         · subst hb
           have := ih _ _ _ (by exact h0) (h.2 rfl)
           rwa [lit_id hl] at this
       · split at h
         · rename_i b hc
           refine cond b hc (fun hb => ?_) (fun hb => ?_)
           · subst hb; exact ih _ _ _ h0 h
           · subst hb; exact ih _ _ _ h0 h
         · exact h
     · rename_i id ops dr
       split at h
       · exact h
       split at h
       · have := ih _ _ _ h0 h
         intro ι a w H
         refine wp_region_list ?_
         have := this ι a w H
         simpa [den, Exit.then] using this
       · have := runDT_ok (P := P) (cx := cx) (Q := Q) (id := id) (k := k) (S0 := S) (all := ops.toList) (st := .leaf (.code (.region id ops true) :: k) S) hτ hm hG h0 (fun h => h) (fun rest dc S h0 h => ih dc _ S h0 h) _ _ _ _ _ _ (Nat.le_refl _) h
         exact DE.start this
     · rename_i l
       have := ih _ _ _ h0 h
       intro ι a w H
       exact wp_label (this ι a w H)
     · exact h
theorem AK.runT {F : Fam} (hF : F = Fam.real) (hτ : TabOK P τ) (hm : P.follows .mixedOrders = true) {n : Nat} (hn : cx.nt = n) (h0 : cx.w0.fr = 0) (fz : Bool) (G : Tbl) (hG : TblOK P G) {k : List KI} {S : St}
   (h : AKt P cx Q (runT F τ n fz G [] 100000 [] k S)) : AK P cx Q k S := by
 subst hF
 subst hn
 exact AK.stepT hτ hm hG fz _ _ _ k S (by omega) h.m
theorem AK.runTs {F : Fam} (hF : F = Fam.real) (hτ : TabOK P τ) (hm : P.follows .mixedOrders = true) {n : Nat} (hn : cx.nt = n) (h0 : cx.w0.fr = 0) (sp : List Nat) (fz : Bool) (G : Tbl) (hG : TblOK P G) {k : List KI} {S : St}
   (h : AKt P cx Q (Ua.runT F τ n fz G sp 100000 [] k S)) : AK P cx Q k S := by
 subst hF
 subst hn
 exact AK.stepT hτ hm hG fz _ _ _ k S (by omega) h.m
theorem AK.runTn {F : Fam} (hF : F = Fam.real) (hτ : TabOK P τ) (hm : P.follows .mixedOrders = true) {n : Nat} (hn : cx.nt = n) (sp : List Nat) (fz : Bool) (G : Tbl) (hG : TblOK P G) {k : List KI} {S : St} (h0 : cx.w0.fr ≤ S.fr)
   (h : AKt P cx Q (Ua.runT F τ n fz G sp 100000 [] k S)) : AK P cx Q k S := by
 subst hF
 subst hn
 exact AK.stepT hτ hm hG fz _ _ _ k S h0 h.m
theorem AKl.invTn {F : Fam} (hF : F = Fam.real) (hτ : TabOK P τ) (hm : P.follows .mixedOrders = true) {nn : Nat} (hn : cx.nt = nn) {c : Code} {k : List KI} {S : St} {K : List (Nat × AV)} (fz : Bool) (G : Tbl) (hG : TblOK P G) (h0 : cx.w0.fr ≤ S.fr)
   (I : Nat → List (Nat × AV) → List (Nat × Blk) → Prop) (n : Nat) {vs : List (Nat × AV)} {hs : List (Nat × Blk)}
   (hI : I n vs hs) (h1 : leT0 S.fr S.t (appT vs K)) (h2 : leH0 S.fr S.h hs)
   (round : ∀ (J : St → Prop) n vs hs, (∀ m vs hs, m < n → I m vs hs → J ⟨appT vs K, hs, S.fr⟩) → I n vs hs → AKt P cx Q (Ua.runT F τ nn fz G [] 100000 [] (.code c :: .back J :: k) ⟨appT vs K, hs, S.fr⟩)) : AKl P cx Q c k S K := by
 intro hK
 refine AK.keepL ⟨appT vs K, hs, S.fr⟩ h0 h1 h2 (AK.loop (fun n S' => ∃ vs hs, I n vs hs ∧ S' = ⟨appT vs K, hs, S.fr⟩) n ⟨vs, hs, hI, rfl⟩ ?_)
 rintro n S' ⟨vs, hs, hI, rfl⟩
 refine AK.runTn hF hτ hm hn [] fz G hG h0 (round _ n vs hs ?_ hI)
 intro m vs hs hm hI
 exact ⟨m, hm, vs, hs, hI, rfl⟩
theorem AKl.invT {F : Fam} (hF : F = Fam.real) (hτ : TabOK P τ) (hm : P.follows .mixedOrders = true) {nn : Nat} (hn : cx.nt = nn) {c : Code} {k : List KI} {S : St} {K : List (Nat × AV)} (h0 : cx.w0.fr = 0) (fz : Bool) (G : Tbl) (hG : TblOK P G)
   (I : Nat → List (Nat × AV) → List (Nat × Blk) → Prop) (n : Nat) {vs : List (Nat × AV)} {hs : List (Nat × Blk)}
   (hI : I n vs hs) (h1 : leT0 S.fr S.t (appT vs K)) (h2 : leH0 S.fr S.h hs)
   (round : ∀ (J : St → Prop) n vs hs, (∀ m vs hs, m < n → I m vs hs → J ⟨appT vs K, hs, S.fr⟩) → I n vs hs → AKt P cx Q (Ua.runT F τ nn fz G [] 100000 [] (.code c :: .back J :: k) ⟨appT vs K, hs, S.fr⟩)) : AKl P cx Q c k S K := by
 intro hK
 refine AKp.loop (I := fun n S' => ∃ vs hs, I n vs hs ∧ S' = ⟨appT vs K, hs, S.fr⟩) ⟨appT vs K, hs, S.fr⟩ h0 h1 h2 n ⟨vs, hs, hI, rfl⟩ ?_
 rintro n S' ⟨vs, hs, hI, rfl⟩
 refine AK.runT hF hτ hm hn h0 fz G hG (round _ n vs hs ?_ hI)
 intro m vs hs hm hI
 exact ⟨m, hm, vs, hs, hI, rfl⟩
def outH (h : List (Nat × Blk)) (fr : Nat) : Nat → Nat → Option (List (Nat × Blk))
 | 0, _ => some []
 | n + 1, i => (match look i h with
   | some B => (match B.lt fr, outH h fr n (i + 1) with
     | true, some l => some ((i, B) :: l)
     | _, _ => none)
   | none => none)
theorem outH_le {h : List (Nat × Blk)} {fr : Nat} : ∀ {n i : Nat} {l : List (Nat × Blk)}, outH h fr n i = some l → i + n ≤ fr → leH0 fr h l
 | 0, i, l, e, _ => by
   obtain rfl := Option.some.inj e
   exact True.intro
 | n + 1, i, l, e, hi => by
   unfold outH at e
   split at e
   · rename_i B hB
     split at e
     · rename_i l' h1 h2
       obtain rfl := Option.some.inj e
       exact ⟨⟨hB, h1, by rw [Nat.blt_eq]; show i < fr; omega⟩, outH_le h2 (by omega)⟩
     · cases e
   · cases e
theorem ASpec.enterK {f : FuncId} {fn : Func} {c : Code} {args : List AV} {h : List (Nat × Blk)} {fr : Nat} {Qr : AV → List (Nat × Blk) → Nat → Prop}
   (hf : P.funcs[f]? = some fn) (hname : (fn.name == "runtime.NumGoroutine") = false) (hb : fn.body = some c) (hl : args.length ≤ fn.ntmps)
   (H : AVoks args → ∀ cx : Cx P, cx.nt = fn.ntmps → cx.w0.fr = fr → AK P cx (fin P fn cx Qr) [.code c] ⟨enumT 0 args, h, fr⟩) : ASpec P f args h fr Qr := by
 have base : AVoks args → ASpec P f args h fr Qr := fun hok => ASpec.enter hf hname hb hl (H hok)
 refine ⟨enters_of hf hname hb, fun X L w ι vs h1 hg h2 h3 => ?_⟩
 exact (base (avoks_of h2 h3)).2 X L w ι vs h1 hg h2 h3
theorem finM_of {fn : Func} (hτ : TabOK P τ) {S : St} {x X : AV} {h' H : List (Nat × Blk)} {fr' : Nat} (h0 : cx.w0.fr = fr') (hres : endX τ S fn.results.toList = some x)
   (ho : outH S.h fr' fr' 0 = some h') (hx : x = X) (hH : h' = H) : ∀ ι a w, Rel cx.X cx.L cx.w0 cx.nt ι S a w →
   fin P fn cx (fun y h1 fr1 => y = X ∧ h1 = H ∧ fr1 = fr') .ret a w ∧ fin P fn cx (fun y h1 fr1 => y = X ∧ h1 = H ∧ fr1 = fr') .normal a w := by
 subst hx hH
 have hh := outH_le ho (by omega)
 unfold endX at hres
 split at hres
 · rename_i l hl
   split at hres
   · rename_i hlt
     obtain rfl := Option.some.inj hres
     intro ι a w H
     refine fin_of (cx := cx) hτ hl id (x := tupAV l) (h' := h') (fr' := fr') (by rw [ren_id]) (lt_mono0 hlt) (fun n hn => ⟨by omega, rfl⟩) (fun n B hB => ?_) (fun n m _ _ e => e) ⟨rfl, rfl, rfl⟩ ι a w H
     have : ∀ {h' : List (Nat × Blk)}, leH0 fr' S.h h' → ∀ n B, look n h' = some B → n < fr' ∧ B.lt fr' = true ∧ look n S.h = some B := by
       intro h'
       induction h' with
       | nil => intro _ n B hB; simp [look] at hB
       | cons p l ih =>
         intro ⟨⟨g1, g2, g3⟩, g4⟩ n B hB
         rw [look_cons] at hB
         split at hB
         · rename_i e
           obtain rfl := Option.some.inj hB
           subst e
           exact ⟨blt_lt g3, g2, g1⟩
         · exact ih g4 n B hB
     obtain ⟨g1, g2, g3⟩ := this hh n B hB
     exact ⟨g1, g2, by rw [bren_id]; exact g3⟩
   · cases hres
 · cases hres
theorem AKp.doneM {fn : Func} (hτ : TabOK P τ) {S : St} {x X : AV} {h' H : List (Nat × Blk)} {fr' : Nat} (h0 : cx.w0.fr = fr') (hres : endX τ S fn.results.toList = some x)
   (ho : outH S.h fr' fr' 0 = some h') (hx : x = X) (hH : h' = H) {k : List KI} : AKp P cx (fin P fn cx (fun y h1 fr1 => y = X ∧ h1 = H ∧ fr1 = fr')) (.code .ret :: k, S) :=
 AK.ret fun ι a w r => (finM_of hτ h0 hres ho hx hH ι a w r).1
theorem AKp.endM {fn : Func} (hτ : TabOK P τ) {S : St} {x X : AV} {h' H : List (Nat × Blk)} {fr' : Nat} (h0 : cx.w0.fr = fr') (hres : endX τ S fn.results.toList = some x)
   (ho : outH S.h fr' fr' 0 = some h') (hx : x = X) (hH : h' = H) : AKp P cx (fin P fn cx (fun y h1 fr1 => y = X ∧ h1 = H ∧ fr1 = fr')) ([], S) :=
 AK.end fun ι a w r => (finM_of hτ h0 hres ho hx hH ι a w r).2
inductive LeX : AV → AV → Prop
 | one {x y : AV} : LeA x y → LeX x y
 | tup {cs ds : List AV} : LesA cs ds → LeX (.tup cs) (.tup ds)
theorem LeX.rep {R : Rd} {ι : Io} {x y : AV} {v : Value} (h : LeX x y) (hr : RepV R ι x v) : RepV R ι y v := by
 cases h with
 | one h => exact h.rep hr
 | tup h =>
   cases hr with
   | tup cs vs hl hc =>
     obtain ⟨g1, g2⟩ := h.get
     refine .tup _ vs (by omega) fun i c v hc' hv => ?_
     obtain ⟨x, hx, hle⟩ := g2 i c hc'
     exact hle.rep (hc i x v hx hv)
theorem AKp.doneL {fn : Func} (hτ : TabOK P τ) {S : St} {x X : AV} (h0 : cx.w0.fr = 0) (hres : endX τ S fn.results.toList = some x) (hle : LeX x X) {k : List KI} :
   AKp P cx (finE P fn cx (fun y => y = X)) (.code .ret :: k, S) := by
 unfold endX at hres
 split at hres
 · rename_i l hl
   split at hres
   · rename_i hlt
     obtain rfl := Option.some.inj hres
     refine AK.ret fun ι a w H => ?_
     have := (fin_of (cx := cx) (Qr := fun y h' fr' => y = tupAV l ∧ h' = [] ∧ fr' = 0) hτ hl id (x := tupAV l) (h' := []) (fr' := 0) (by rw [ren_id]) hlt (fun n hn => by omega) (fun n B h => by simp [look] at h) (fun n m h => by simp [look] at h) ⟨rfl, rfl, rfl⟩ ι a w H).1
     obtain ⟨d1, v, d2, v', x', h', fr', ι', e1, ⟨rfl, rfl, rfl⟩, e2, e3⟩ := this
     exact ⟨d1, v, d2, v', X, [], 0, ι', e1, ⟨rfl, rfl, rfl⟩, hle.rep e2, e3⟩
   · cases hres
 · cases hres
end
end Go.Ua
namespace Go.Ua
open Go Go.Proofs
theorem f_ltI (a b : Int) : Fam.real .ltI a b = decide (a < b) := rfl
theorem f_leI (a b : Int) : Fam.real .leI a b = decide (a ≤ b) := rfl
theorem f_eqI (a b : Int) : Fam.real .eqI a b = (a == b) := rfl
theorem f_eqS (a b : List UInt8) : Fam.real .eqS a b = (a == b) := rfl
theorem f_eqB (a b : Bool) : Fam.real .eqB a b = (a == b) := rfl
theorem f_not (a : Bool) : Fam.real .not a = !a := rfl
theorem f_andB (a b : Bool) : Fam.real .andB a b = (a && b) := rfl
theorem f_orB (a b : Bool) : Fam.real .orB a b = (a || b) := rfl
theorem f_lenS (a : List UInt8) : Fam.real .lenS a = (a.length : Int) := rfl
theorem f_lenD (a : List Dat) : Fam.real .lenD a = (a.length : Int) := rfl
theorem f_hasS (l : List UInt8) (n : Int) : Fam.real .hasS l n = (decide (0 ≤ n) && decide (n < (l.length : Int))) := rfl
theorem f_atS (l : List UInt8) (n : Int) : Fam.real .atS l n = ((l.getD n.toNat 0).toNat : Int) := rfl
theorem f_hasC (l : List UInt8) (i j : Int) : Fam.real .hasC l i j = (decide (0 ≤ i) && (decide (i ≤ j) && decide (j ≤ (l.length : Int)))) := rfl
theorem f_subS (l : List UInt8) (i j : Int) : Fam.real .subS l i j = (l.take j.toNat).drop i.toNat := rfl
theorem f_hasCat (a b : List UInt8) : Fam.real .hasCat a b = decide (a.length + b.length ≤ 9223372036854775807) := rfl
theorem f_app (a b : List UInt8) : Fam.real .app a b = a ++ b := rfl
theorem f_wrap (k : IntKind) (a : Int) : Fam.real .wrap k a = k.wrap a := rfl
theorem f_add (a b : Int) : Fam.real .add a b = a + b := rfl
theorem f_sub (a b : Int) : Fam.real .sub a b = a - b := rfl
theorem f_mul (a b : Int) : Fam.real .mul a b = a * b := rfl
theorem f_appD (a b : List Dat) : Fam.real .appD a b = a ++ b := rfl
theorem f_fits (n : Nat) (a : List Dat) : Fam.real .fits n a = decide (a.length * n ≤ 70368744177664) := rfl
theorem f_hasV (l : List Dat) (i j : Int) : Fam.real .hasV l i j = (decide (0 ≤ i) && (decide (i ≤ j) && decide (j ≤ (l.length : Int)))) := rfl
theorem f_subV (l : List Dat) (i j : Int) : Fam.real .subV l i j = (l.take j.toNat).drop i.toNat := rfl
theorem f_ofStr (l : List Dat) : Fam.real .ofStr l = (strOf l).getD [] := rfl
theorem f_hasStr (l : List Dat) : Fam.real .hasStr l = (strOf l).isSome := rfl
section
variable {F : Fam} (hF : F = Fam.real)
include hF
theorem t_hasS {s : List UInt8} {i : Nat} {iv : Int} (h : i < s.length) (hi : iv = i) : F .hasS s iv = true := by
 subst hF; subst hi
 rw [f_hasS, decide_eq_true (by omega), decide_eq_true (by omega)]; rfl
theorem t_atS {s : List UInt8} {i : Nat} {c : UInt8} {iv : Int} (h : s[i]? = some c) (hi : iv = i) : F .atS s iv = (c.toNat : Int) := by
 subst hF; subst hi
 rw [f_atS, Int.toNat_natCast, List.getD_eq_getElem?_getD, h]; rfl
theorem t_hasV {s : List Dat} {i j : Nat} {iv jv : Int} (hi : iv = i) (hj : jv = j) (h1 : i ≤ j) (h2 : j ≤ s.length) : F .hasV s iv jv = true := by
 subst hF; subst hi; subst hj
 rw [f_hasV, decide_eq_true (by omega), decide_eq_true (by omega), decide_eq_true (by omega)]; rfl
theorem t_subV {s : List Dat} {i j : Nat} {iv jv : Int} (hi : iv = i) (hj : jv = j) : F .subV s iv jv = (s.take j).drop i := by
 subst hF; subst hi; subst hj; rfl
theorem t_hasCat {a b : List UInt8} (h : a.length + b.length ≤ 9223372036854775807) : F .hasCat a b = true := by
 subst hF; exact decide_eq_true h
theorem t_hasD {es : List Dat} {i : Nat} {d : Dat} {iv : Int} {sk : List SK} (h : es[i]? = some d) (hi : iv = i) (hs : sksOK sk d.cells = true) : F .hasD es iv sk = true := by
 subst hF; subst hi
 show (match getI es (i : Int) with | some d => sksOK sk d.cells | none => false) = true
 rw [show getI es (i : Int) = some d by simp [getI, h]]
 exact hs
omit hF in
theorem t_cell {es : List Dat} {i j : Nat} {d c : Dat} {iv : Int} (h : es[i]? = some d) (hi : iv = i) (hc : d.cells[j]? = some c) : ((es.getD iv.toNat (.agg [])).cells).getD j (.agg []) = c := by
 subst hi
 have e : es.getD i (.agg []) = d := by rw [List.getD_eq_getElem?_getD, h]; rfl
 rw [Int.toNat_natCast, e, List.getD_eq_getElem?_getD, hc]; rfl
theorem t_strA {es : List Dat} {i j : Nat} {d : Dat} {s : List UInt8} {iv : Int} (h : es[i]? = some d) (hi : iv = i) (hc : d.cells[j]? = some (.s (.str s))) : F .strA es iv j = s := by
 subst hF
 show (match ((es.getD iv.toNat (.agg [])).cells).getD j (.agg []) with | .s (.str s) => s | _ => []) = s
 rw [t_cell h hi hc]
theorem t_intA {es : List Dat} {i j : Nat} {d : Dat} {k : IntKind} {s : Int} {iv : Int} (h : es[i]? = some d) (hi : iv = i) (hc : d.cells[j]? = some (.s (.int k s))) : F .intA es iv j = s := by
 subst hF
 show (match ((es.getD iv.toNat (.agg [])).cells).getD j (.agg []) with | .s (.int _ s) => s | _ => 0) = s
 rw [t_cell h hi hc]
theorem t_viewA {es : List Dat} {i j k : Nat} {d : Dat} {s : List Dat} {iv : Int} (h : es[i]? = some d) (hi : iv = i) (hc : d.cells[j]? = some (.view k s)) : F .viewA es iv j = s := by
 subst hF
 show (match ((es.getD iv.toNat (.agg [])).cells).getD j (.agg []) with | .view _ s => s | _ => []) = s
 rw [t_cell h hi hc]
theorem t_str0 {zs : List (List UInt8)} {i : Nat} {s : List UInt8} {iv : Int} (h : zs[i]? = some s) (hi : iv = i) : F .strA (strDs zs) iv 0 = s :=
 t_strA hF (i := i) (d := .s (.str s)) (by simp [strDs, h]) hi rfl
theorem t_hasStrs {zs : List (List UInt8)} {i : Nat} {iv : Int} (h : i < zs.length) (hi : iv = i) : F .hasD (strDs zs) iv [.str] = true :=
 t_hasD hF (i := i) (d := .s (.str zs[i])) (by simp [strDs, h]) hi rfl
end
end Go.Ua
namespace Go.Ua
open Go Go.Proofs
theorem ESpec.ok {P : Program} [Globs P] {f : FuncId} {args : List AV} {post : AV → Prop} (he : Enters P f) (h : AVoks args → ESpec P f args post) : ESpec P f args post :=
 ⟨he, fun X L w ι vs h1 hg h2 h3 => (h (avoks_of h2 h3)).2 X L w ι vs h1 hg h2 h3⟩
theorem u8_of {n : Int} (h : (Sc.int .u8 n).ok) : ((UInt8.ofNat n.toNat).toNat : Int) = n := by
 have h1 : 0 ≤ n := h.1
 have h2 : n ≤ 255 := h.2
 rw [UInt8.toNat_ofNat']
 omega
def unStr (es : List Dat) : List (List UInt8) := es.map fun d => match d with
 | .s (.str s) => s
 | _ => []
def isStrs (es : List Dat) : Bool := es.all fun d => match d with
 | .s (.str _) => true
 | _ => false
theorem unStr_strDs (l : List (List UInt8)) : unStr (strDs l) = l := by
 unfold unStr strDs
 rw [List.map_map]
 induction l with
 | nil => rfl
 | cons x r ih => simp [ih]
theorem isStrs_strDs (l : List (List UInt8)) : isStrs (strDs l) = true := by
 unfold isStrs strDs
 rw [List.all_map]
 exact List.all_eq_true.2 fun x _ => rfl
theorem strDs_unStr : ∀ {es : List Dat}, isStrs es = true → strDs (unStr es) = es
 | [], _ => rfl
 | d :: es, h => by
   unfold isStrs at h
   simp only [List.all_cons, Bool.and_eq_true] at h
   have ih := strDs_unStr (es := es) h.2
   have hd := h.1
   split at hd
   · show Dat.s (.str _) :: strDs (unStr es) = _
     rw [ih]
   · cases hd
theorem strDs_length (l : List (List UInt8)) : (strDs l).length = l.length := by simp [strDs]
theorem avb {a b : Bool} (h : a = b) : AV.d (.s (.bool a)) = AV.d (.s (.bool b)) := by rw [h]
theorem t_fits {F : Fam} (hF : F = Fam.real) {n : Nat} {es : List Dat} (h : es.length * n ≤ 70368744177664) : F .fits n es = true := by
 subst hF; exact decide_eq_true h
theorem t_app {F : Fam} (hF : F = Fam.real) (a b : List UInt8) : F .app a b = a ++ b := by subst hF; rfl
end Go.Ua
namespace Go.Ua
open Go Go.Proofs
theorem t_strG {F : Fam} (hF : F = Fam.real) (ws : List (List UInt8)) (n : Nat) : F .strA (strDs ws) (n : Int) 0 = ws.getD n [] := by
 subst hF
 show (match (((strDs ws).getD (n : Int).toNat (.agg [])).cells).getD 0 (.agg []) with | .s (.str s) => s | _ => []) = _
 have e1 : (strDs ws).getD n (.agg []) = ((ws[n]?).map fun s => Dat.s (.str s)).getD (.agg []) := by rw [List.getD_eq_getElem?_getD]; unfold strDs; rw [List.getElem?_map]
 have e2 : ws.getD n [] = (ws[n]?).getD [] := List.getD_eq_getElem?_getD ..
 rw [Int.toNat_natCast, e1, e2]
 cases ws[n]? <;> rfl
theorem t_hasG {F : Fam} (hF : F = Fam.real) {ws : List (List UInt8)} {n : Nat} (h : n < ws.length) : F .hasD (strDs ws) (n : Int) [.str] = true := t_hasStrs hF h rfl
end Go.Ua
namespace Go.Ua
open Go Go.Proofs
section
variable {P : Program} [Globs P] {τ : Tab} {cx : Cx P} {Q : Exit → Act → World → Prop}
theorem exK {p : Prop} (K0 : List KI) (h : ∀ K, K = K0 → p) : p := h K0 rfl
theorem AKp.join {K k : List KI} (hK : K = k) {S : St} (S' : St) (h0 : cx.w0.fr = 0) (h1 : leT0 S'.fr S.t S'.t) (h2 : leH0 S'.fr S.h S'.h) (h : AK P cx Q K S') : AKp P cx Q (k, S) := by
 subst hK
 exact AK.keep S' h0 h1 h2 h
end
end Go.Ua
