/- The library of this claim and its walks, part 28, joined out of smaller texts. No statement stands in it. -/
import Derived.Test.YtflpgbkdjelaaaaDoorUaM21
import Derived.Test.YtflpgbkdjelaaaaDoorUaM25
import Derived.Test.YtflpgbkdjelaaaaDoorUaM27
import Derived.Shelf.Strings.Builder1
/- strings.Builder: its copy check, what is written to it, what it holds. -/
namespace Go.Proofs.YtflpgbkdjelaaaaDoor
open Go Go.Proofs Go.Ua Go.Extern Go.Shelf
set_option linter.unusedVariables false
set_option linter.unusedSimpArgs false

theorem lays240 : Lays.n240 Tryd.prog Tryd.lays156_ren := { Tryd.lays156 with }
theorem calls_ret {P : Program} {f : FuncId} {vs : Array Value} {w : World} {Q R : Ending → World → Prop} (h : Calls P f vs w Q) (hq : ∀ e w', Q e w' → R e w') : Calls P f vs w R := h.mono hq

theorem copyCheck_spec (bs : List Dat) : ASpec Tryd.prog 61 [.ptr 0 0 0 2] [(0, .cs 54 [.opt 0, .row 1 1]), (1, .ds 5 1 bs)] 2 (fun y h1 fr1 => y = .tup [] ∧ h1 = [(0, .cs 54 [.opt 0, .row 1 1]), (1, .ds 5 1 bs)] ∧ fr1 = 2) := by
  refine ⟨enters_of Tryd.func61 (by kernel_rfl) rfl, fun X L w ι vs h1 hg h2 h3 => ?_⟩
  obtain ⟨v, rfl⟩ : ∃ v, vs = [v] := by
    match vs, h2 with
    | [v], _ => exact ⟨v, rfl⟩
  have hv := h3 0 _ v rfl rfl
  have hB := h1.hp 0 _ (show Go.Ua.look 0 ([(0, .cs 54 [.opt 0, .row 1 1]), (1, .ds 5 1 bs)] : List (Nat × Blk)) = some _ from rfl)
  cases hv with
  | ptr _ _ _ _ b c l hi =>
  cases hB with
  | cs _ _ b' cap l' cur hi' hb hl hone hr =>
  rw [hi] at hi'
  cases hi'
  obtain ⟨c0, c1, rfl⟩ : ∃ c0 c1, cur = [c0, c1] := by
    match cur, hl with
    | [c0, c1], _ => exact ⟨c0, c1, rfl⟩
  have r0 := hr 0 _ c0 rfl rfl
  have same : Res X L ⟨w, ι, 2⟩ (fun y h1 fr1 => y = .tup [] ∧ h1 = [(0, .cs 54 [.opt 0, .row 1 1]), (1, .ds 5 1 bs)] ∧ fr1 = 2) (.returned (.tuple #[])) w :=
    ⟨_, _, _, _, ι, rfl, ⟨rfl, rfl, rfl⟩, .tup [] [] rfl (fun i c v h => by simp at h), h1⟩
  cases r0 with
  | opt _ b2 c2 l2 _ hi2 hv2 =>
  rw [hi] at hi2
  cases hi2
  show Calls Tryd.prog 61 #[.pointer (some ⟨b, 0 * 2 + 0, none⟩)] w _
  rw [show 0 * 2 + 0 = 0 from rfl]
  rcases hv2 with rfl | rfl
  · refine calls_ret (Any.Builder_copyCheck_fresh lays240 Tryd.Builder_Extra_156.toX72 b w ?_ ?_ ?_) ?_
    · simp [World.cell?, hb]
    · simp [World.shape?, hb]; rfl
    · simp [World.frozen?, hb]
    · rintro e w' ⟨rfl, rfl⟩
      have HR : Rel X L ⟨w, ι, 2⟩ 0 ι ⟨[], [(0, .cs 54 [.opt 0, .row 1 1]), (1, .ds 5 1 bs)], 2⟩ { tmps := #[], defers := [] } w := ⟨h1, fun t x ht => by simp [Go.Ua.look] at ht, rfl, rfl⟩
      have hW : ∀ (R' : Rd) (ι' : Io) (w' : World), (∀ b o v, rdOf L ι ([(0, .cs 54 [.opt 0, .row 1 1]), (1, .ds 5 1 bs)] : List (Nat × Blk)) w b o v → R' b o v) → (∀ n p, ι n = some p → ι' n = some p) → w'.heap[b]? = some (.cells [Value.pointer (some ⟨b, 0, none⟩), c1].toArray 54 (0, 0)) → RepB R' ι' w' 0 (.cs 54 [.opt 0, .row 1 1]) := by
        intro R' ι' w' hR hι hw'
        refine .cs _ _ b c l _ (hι _ _ hi) hw' rfl (fun v hv => ?_) (fun j cc v hc hv => ?_)
        · simp only [List.mem_cons, List.not_mem_nil, or_false] at hv
          rcases hv with rfl | rfl
          · rfl
          · exact hone _ (by simp)
        · match j, hc, hv with
          | 0, hc, hv => cases hc; cases hv; exact .opt 0 b c l _ (hι _ _ hi) (.inr rfl)
          | 1, hc, hv => exact (hr 1 cc v hc hv).mono hR hι
          | j + 2, hc, hv => simp at hc
      obtain ⟨ι', H', hsame⟩ := HR.write (n := 0) rfl hi hb hW
      rw [setCell_eq_setRow w b 0 _ _ _ _ hb]
      exact ⟨_, _, _, _, ι', rfl, ⟨rfl, rfl, rfl⟩, .tup [] [] rfl (fun i c v h => by simp at h), H'.hr⟩
  · refine calls_ret (Any.Builder_copyCheck_used lays240 Tryd.Builder_Extra_156.toX72 b w ?_) ?_
    · simp [World.cell?, hb]
    · rintro e w' ⟨rfl, rfl⟩
      exact same
def φCopyCheck  : Nat → List AV → List (Nat × Blk) → Option (Bool × AV × List (Nat × Blk) × Nat)
  | 2, [.ptr 0 0 0 2], [(0, .cs 54 [.opt 0, .row 1 1]), (1, .ds 5 1 bs)] => some (true, .tup [], [(0, .cs 54 [.opt 0, .row 1 1]), (1, .ds 5 1 bs)], 2)
  | _, _, _ => none
theorem φCopyCheck_ok : MSpOK Tryd.prog 61 (φCopyCheck ) := by
  intro fr xs h b x h1 fr1 h hb
  unfold φCopyCheck at h
  split at h
  · simp only [Option.some.injEq, Prod.mk.injEq] at h
    obtain ⟨rfl, rfl, rfl, rfl⟩ := h
    exact copyCheck_spec _
  · cases h

def byD (s : List UInt8) : List Dat := s.map fun c => .s (.int .u8 c.toNat)
theorem byD_app (a b : List UInt8) : byD (a ++ b) = byD a ++ byD b := by simp [byD]
theorem byD_length (a : List UInt8) : (byD a).length = a.length := by simp [byD]
/-- Room in the builder. -/
def roomB (bs : List Dat) (n : Nat) : Bool := decide (bs.length + n ≤ 70368744177664)
theorem fits_at {F : Fam} (hF : F = Fam.real) {bs : List Dat} {s : List UInt8} (h : bs.length + s.length ≤ 70368744177664) : F .fits 1 (F .appD bs (F .bytesD s)) = true := by
  rw [hF]
  show decide ((bs ++ s.map fun c => Dat.s (.int .u8 c.toNat)).length * 1 ≤ 70368744177664) = true
  exact decide_eq_true (by simp; omega)
theorem fits_at1 {F : Fam} (hF : F = Fam.real) {bs : List Dat} {x : Dat} (h : bs.length + 1 ≤ 70368744177664) : F .fits 1 (F .appD bs [x]) = true := by
  rw [hF]
  show decide ((bs ++ [x]).length * 1 ≤ 70368744177664) = true
  exact decide_eq_true (by simp; omega)
theorem writeString_spec (bs : List Dat) (s : List UInt8) (h : roomB bs s.length = true) : ASpec Tryd.prog 37 [.ptr 0 0 0 2, .d (.s (.str s))] [(0, .cs 54 [.opt 0, .row 1 1]), (1, .ds 5 1 bs)] 2 (fun y h1 fr1 => y = .tup [.d (.s (.int .i64 s.length)), .d (.s .if0)] ∧ h1 = [(0, .cs 54 [.opt 0, .row 2 1]), (2, .ds 5 1 (bs ++ byD s))] ∧ fr1 = 3) := by
  have hG : TblOK Tryd.prog [(61, .m (φCopyCheck ))] := ⟨φCopyCheck_ok, trivial⟩
  have h1 := of_decide_eq_true h
  refine ASpec.enterK Tryd.func37 (by kernel_rfl) rfl (Nat.le_of_ble_eq_true rfl) fun hok cx hnt hfr => ?_
  obtain ⟨F, hF⟩ := real_ex
  refine AK.runTn hF tabOK hmix hnt [] false _ hG (Nat.le_of_eq hfr) ?_
  conv => arg 4; cbv
  refine AKt.need rfl fun _ => AKt.need (fits_at hF h1) fun _ => ?_
  repeat' (first | with_reducible (first | refine AKt.have ?_ | refine AKt.tt ?_ | refine AKt.ff ?_ | refine AKt.yes (by assumption) ?_ | refine AKt.no (by assumption) ?_ | refine AKt.node (fun hb => ?_) (fun hb => ?_) | refine AKt.need ?_ (fun hb => ?_) | refine AKt.leaf ?_) | ((with_reducible show _ = true); assumption))
  first | refine AKp.doneI tabOK [0, 1, 2] hfr (by rfl) (by rfl) (by rfl) rfl rfl rfl ?_ ?_ | refine AKp.endI tabOK [0, 1, 2] hfr (by rfl) (by rfl) (by rfl) rfl rfl rfl ?_ ?_
  all_goals show _ = _
  · simp only [hF, f_ltI, f_leI, f_eqI, f_eqS, f_eqB, f_not, f_andB, f_orB, f_lenS, f_lenD, f_hasS, f_atS, f_hasC, f_subS, f_hasCat, f_app, f_wrap, f_add, f_sub, f_mul, f_appD, f_fits, f_hasV, f_subV, decide_eq_true_eq, decide_eq_false_iff_not, beq_iff_eq, beq_eq_false_iff_ne, Bool.and_eq_true, Bool.and_eq_false_iff, Bool.not_eq_true, Bool.not_eq_false, Bool.not_eq_eq_eq_not, Bool.not_true, Bool.not_false] at *
    rfl
  · simp only [hF, f_ltI, f_leI, f_eqI, f_eqS, f_eqB, f_not, f_andB, f_orB, f_lenS, f_lenD, f_hasS, f_atS, f_hasC, f_subS, f_hasCat, f_app, f_wrap, f_add, f_sub, f_mul, f_appD, f_fits, f_hasV, f_subV, decide_eq_true_eq, decide_eq_false_iff_not, beq_iff_eq, beq_eq_false_iff_ne, Bool.and_eq_true, Bool.and_eq_false_iff, Bool.not_eq_true, Bool.not_eq_false, Bool.not_eq_eq_eq_not, Bool.not_true, Bool.not_false] at *
    rfl
def φWriteString (p : List Dat → List UInt8 → Bool) (u : List UInt8 → Int) (v : List Dat → List UInt8 → List Dat) : Nat → List AV → List (Nat × Blk) → Option (Bool × AV × List (Nat × Blk) × Nat)
  | 2, [.ptr 0 0 0 2, .d (.s (.str s))], [(0, .cs 54 [.opt 0, .row 1 1]), (1, .ds 5 1 bs)] => some (p bs s, .tup [.d (.s (.int .i64 (u s))), .d (.s .if0)], [(0, .cs 54 [.opt 0, .row 2 1]), (2, .ds 5 1 (v bs s))], 3)
  | _, _, _ => none
theorem φWriteString_ok : MSpOK Tryd.prog 37 (φWriteString (fun bs s => roomB bs s.length) (fun s => s.length) (fun bs s => bs ++ byD s)) := by
  intro fr xs h b x h1 fr1 h hb
  unfold φWriteString at h
  split at h
  · simp only [Option.some.injEq, Prod.mk.injEq] at h
    obtain ⟨rfl, rfl, rfl, rfl⟩ := h
    exact writeString_spec _ _ hb
  · cases h

theorem writeByte_spec (bs : List Dat) (c : Int) (h : roomB bs 1 = true) : ASpec Tryd.prog 39 [.ptr 0 0 0 2, .d (.s (.int .u8 c))] [(0, .cs 54 [.opt 0, .row 1 1]), (1, .ds 5 1 bs)] 2 (fun y h1 fr1 => y = .d (.s .if0) ∧ h1 = [(0, .cs 54 [.opt 0, .row 2 1]), (2, .ds 5 1 (bs ++ [.s (.int .u8 c)]))] ∧ fr1 = 3) := by
  have hG : TblOK Tryd.prog [(61, .m (φCopyCheck ))] := ⟨φCopyCheck_ok, trivial⟩
  have h1 := of_decide_eq_true h
  refine ASpec.enterK Tryd.func39 (by kernel_rfl) rfl (Nat.le_of_ble_eq_true rfl) fun hok cx hnt hfr => ?_
  obtain ⟨F, hF⟩ := real_ex
  refine AK.runTn hF tabOK hmix hnt [] false _ hG (Nat.le_of_eq hfr) ?_
  conv => arg 4; cbv
  refine AKt.need rfl fun _ => AKt.need (fits_at1 hF h1) fun _ => ?_
  repeat' (first | with_reducible (first | refine AKt.have ?_ | refine AKt.tt ?_ | refine AKt.ff ?_ | refine AKt.yes (by assumption) ?_ | refine AKt.no (by assumption) ?_ | refine AKt.node (fun hb => ?_) (fun hb => ?_) | refine AKt.need ?_ (fun hb => ?_) | refine AKt.leaf ?_) | ((with_reducible show _ = true); assumption))
  first | refine AKp.doneI tabOK [0, 1, 3] hfr (by rfl) (by rfl) (by rfl) rfl rfl rfl ?_ ?_ | refine AKp.endI tabOK [0, 1, 3] hfr (by rfl) (by rfl) (by rfl) rfl rfl rfl ?_ ?_
  all_goals show _ = _
  · rfl
  · simp only [hF, f_ltI, f_leI, f_eqI, f_eqS, f_eqB, f_not, f_andB, f_orB, f_lenS, f_lenD, f_hasS, f_atS, f_hasC, f_subS, f_hasCat, f_app, f_wrap, f_add, f_sub, f_mul, f_appD, f_fits, f_hasV, f_subV, decide_eq_true_eq, decide_eq_false_iff_not, beq_iff_eq, beq_eq_false_iff_ne, Bool.and_eq_true, Bool.and_eq_false_iff, Bool.not_eq_true, Bool.not_eq_false, Bool.not_eq_eq_eq_not, Bool.not_true, Bool.not_false] at *
    rfl
def φWriteByte (p : List Dat → Bool) (v : List Dat → Int → List Dat) : Nat → List AV → List (Nat × Blk) → Option (Bool × AV × List (Nat × Blk) × Nat)
  | 2, [.ptr 0 0 0 2, .d (.s (.int .u8 c))], [(0, .cs 54 [.opt 0, .row 1 1]), (1, .ds 5 1 bs)] => some (p bs, .d (.s .if0), [(0, .cs 54 [.opt 0, .row 2 1]), (2, .ds 5 1 (v bs c))], 3)
  | _, _, _ => none
theorem φWriteByte_ok : MSpOK Tryd.prog 39 (φWriteByte (fun bs => roomB bs 1) (fun bs c => bs ++ [.s (.int .u8 c)])) := by
  intro fr xs h b x h1 fr1 h hb
  unfold φWriteByte at h
  split at h
  · simp only [Option.some.injEq, Prod.mk.injEq] at h
    obtain ⟨rfl, rfl, rfl, rfl⟩ := h
    exact writeByte_spec _ _ hb
  · cases h
end Go.Proofs.YtflpgbkdjelaaaaDoor
/- What a line says of a configuration; what is formed: plain laws. -/
namespace Go.Proofs.YtflpgbkdjelaaaaDoor
open Go Go.Proofs Go.Ua Go.Extern
set_option linter.unusedVariables false
set_option linter.unusedSimpArgs false

def TOTAL : Wd := [116, 111, 116, 97, 108]
def PERIOD : Wd := [112, 101, 114, 105, 111, 100]
def SEATS : Wd := [115, 101, 97, 116, 115]
def LEVEL : Wd := [108, 101, 118, 101, 108]
def SCHEMA : Wd := [115, 99, 104, 101, 109, 97]
def RULE : Wd := [114, 117, 108, 101]
def EXEMPT : Wd := [101, 120, 101, 109, 112, 116]
def REJECT : Wd := [114, 101, 106, 101, 99, 116]
def QUEUE : Wd := [113, 117, 101, 117, 101]
def ALLW : Wd := [97, 108, 108]
def NONE : Wd := [110, 111, 110, 101]
def USER : Wd := [117, 115, 101, 114]
def SPACE : Wd := [115, 112, 97, 99, 101]

/-- The word at a place. -/
def wAt (w : List Wd) (i : Nat) : Wd := w.getD i []

def totE (c : Cf) (w : List Wd) : Int := if w.length ≠ 2 then 2 else if numB (wAt w 1) 1 4096 = false then 8 else if c.tt ≠ 0 then 5 else 0
def perE (c : Cf) (w : List Wd) : Int := if w.length ≠ 2 then 2 else if numB (wAt w 1) 1 1000 = false then 8 else if c.pe ≠ 0 then 5 else 0
def seaE (c : Cf) (w : List Wd) : Int := if w.length ≠ 3 then 2 else if (numB (wAt w 1) 1 1048576 && numB (wAt w 2) 1 16) = false then 8 else if c.pr ≠ 0 then 5 else 0

def kindL (w : List Wd) : Int := if w.length = 3 ∧ wAt w 2 = EXEMPT then 1 else if w.length = 6 ∧ wAt w 5 = REJECT then 2 else if w.length = 11 ∧ wAt w 5 = QUEUE then 3 else 0
def borB (x : Wd) : Bool := decide (x = ALLW) || numB x 0 1000
def borV (x : Wd) : Int := if x = ALLW then -1 else numV x 0 1000
def limB (w : List Wd) : Bool := numB (wAt w 2) 0 10000 && (numB (wAt w 3) 0 100 && borB (wAt w 4))
def queB (w : List Wd) : Bool := numB (wAt w 6) 1 64 && (numB (wAt w 7) 1 8 && (numB (wAt w 8) 1 64 && (numB (wAt w 9) 1 1000 && numB (wAt w 10) 1 1000)))
def lvOf (w : List Wd) : Lv :=
  if kindL w = 1 then ⟨wAt w 1, 1, 0, 0, 0, 0, 0, 0, 0, 0⟩
  else if kindL w = 2 then ⟨wAt w 1, 2, numV (wAt w 2) 0 10000, numV (wAt w 3) 0 100, borV (wAt w 4), 0, 0, 0, 0, 0⟩
  else ⟨wAt w 1, 3, numV (wAt w 2) 0 10000, numV (wAt w 3) 0 100, borV (wAt w 4), numV (wAt w 6) 1 64, numV (wAt w 7) 1 8, numV (wAt w 8) 1 64, numV (wAt w 9) 1 1000, numV (wAt w 10) 1 1000⟩
def hasL (l : List Lv) (n : Wd) : Bool := l.any fun x => decide (x.nm = n)
def hasM (l : List Sm) (n : Wd) : Bool := l.any fun x => decide (x.nm = n)
def levE (c : Cf) (w : List Wd) : Int :=
  if kindL w = 0 then 2 else if nameF (wAt w 1) = false then 4 else if kindL w ≠ 1 ∧ limB w = false then 8 else if kindL w = 3 ∧ queB w = false then 8
  else if hasL c.ls (wAt w 1) = true then 5 else if 16 ≤ c.ls.length then 3 else 0

def byB (x : Wd) : Bool := decide (x = NONE) || (decide (x = USER) || decide (x = SPACE))
def byV (x : Wd) : Int := if x = USER then 1 else if x = SPACE then 2 else 0
def smOf (w : List Wd) : Sm := ⟨wAt w 1, wAt w 2, numV (wAt w 3) 1 10000, byV (wAt w 4), []⟩
def schE (c : Cf) (w : List Wd) : Int :=
  if w.length ≠ 5 then 2 else if (nameF (wAt w 1) && nameF (wAt w 2)) = false then 4 else if numB (wAt w 3) 1 10000 = false then 8 else if byB (wAt w 4) = false then 2
  else if hasM c.ss (wAt w 1) = true then 5 else if 32 ≤ c.ss.length then 3 else 0

def lisV (x : Wd) : List Wd := (listF x).getD []
def rlOf (w : List Wd) : Rl := ⟨lisV (wAt w 1), lisV (wAt w 2), lisV (wAt w 3), lisV (wAt w 4), lisV (wAt w 5)⟩
def lisB (w : List Wd) : Bool := listB (wAt w 1) && (listB (wAt w 2) && (listB (wAt w 3) && (listB (wAt w 4) && listB (wAt w 5))))
def lastR (c : Cf) : List Rl := (c.ss.getLastD zeroS).rl
def rulE (c : Cf) (w : List Wd) : Int :=
  if w.length ≠ 6 ∨ c.ss = [] then 2 else if lisB w = false then 2 else if 8 ≤ (lastR c).length then 3 else 0
def addR (l : List Sm) (r : Rl) : List Sm := l.dropLast ++ [⟨(l.getLastD zeroS).nm, (l.getLastD zeroS).lv, (l.getLastD zeroS).rk, (l.getLastD zeroS).bb, (l.getLastD zeroS).rl ++ [r]⟩]

def linE (c : Cf) (w : List Wd) : Int :=
  if wAt w 0 = TOTAL then totE c w else if wAt w 0 = PERIOD then perE c w else if wAt w 0 = SEATS then seaE c w
  else if wAt w 0 = LEVEL then levE c w else if wAt w 0 = SCHEMA then schE c w else if wAt w 0 = RULE then rulE c w else 2
/-- What a line adds, where it says anything. -/
def linA (c : Cf) (w : List Wd) : Cf :=
  if wAt w 0 = TOTAL then { c with tt := numV (wAt w 1) 1 4096 } else if wAt w 0 = PERIOD then { c with pe := numV (wAt w 1) 1 1000 }
  else if wAt w 0 = SEATS then { c with pr := numV (wAt w 1) 1 1048576, mo := numV (wAt w 2) 1 16 }
  else if wAt w 0 = LEVEL then { c with ls := c.ls ++ [lvOf w] } else if wAt w 0 = SCHEMA then { c with ss := c.ss ++ [smOf w] } else { c with ss := addR c.ss (rlOf w) }
/-! ### What is formed -/
def inB (n a b : Int) : Bool := decide (a ≤ n) && decide (n ≤ b)
def levOK (l : Lv) : Bool := nameF l.nm &&
  (if l.kd = 1 then decide (l.sh = 0) && (decide (l.ld = 0) && (decide (l.bo = 0) && (decide (l.qu = 0) && (decide (l.ha = 0) && (decide (l.le = 0) && (decide (l.wa = 0) && decide (l.gu = 0)))))))
   else if l.kd = 2 then (decide (l.qu = 0) && (decide (l.ha = 0) && (decide (l.le = 0) && (decide (l.wa = 0) && decide (l.gu = 0))))) && (inB l.sh 0 10000 && (inB l.ld 0 100 && inB l.bo (-1) 1000))
   else if l.kd = 3 then (inB l.qu 1 64 && (inB l.ha 1 8 && (inB l.le 1 64 && (inB l.wa 1 1000 && inB l.gu 1 1000)))) && (inB l.sh 0 10000 && (inB l.ld 0 100 && inB l.bo (-1) 1000))
   else false)
def rlOK (r : Rl) : Bool := goodF r.us && (goodF r.gs && (goodF r.vs && (goodF r.rs && goodF r.ps)))
def smOK (s : Sm) : Bool := nameF s.nm && (nameF s.lv && (inB s.rk 1 10000 && (inB s.bb 0 2 && (decide (s.rl.length ≤ 8) && s.rl.all rlOK))))
/-- One by one: each is right, and has a name of its own. -/
def allL : List Lv → List Lv → Bool
  | _, [] => true
  | p, x :: r => levOK x && (!hasL p x.nm && allL (p ++ [x]) r)
def allM : List Sm → List Sm → Bool
  | _, [] => true
  | p, x :: r => smOK x && (!hasM p x.nm && allM (p ++ [x]) r)
def formC (c : Cf) : Bool := inB c.tt 0 4096 && (inB c.pe 0 1000 && (inB c.pr 0 1048576 && (inB c.mo 0 16 && (decide (c.pr = 0 ↔ c.mo = 0) && (decide (c.ls.length ≤ 16) && (decide (c.ss.length ≤ 32) && (allL [] c.ls && allM [] c.ss)))))))

theorem allL_app : ∀ (a p b : List Lv), allL p (a ++ b) = (allL p a && allL (p ++ a) b)
  | [], p, b => by simp [allL]
  | x :: a, p, b => by simp [allL, allL_app a, List.append_assoc, Bool.and_assoc]
theorem allM_app : ∀ (a p b : List Sm), allM p (a ++ b) = (allM p a && allM (p ++ a) b)
  | [], p, b => by simp [allM]
  | x :: a, p, b => by simp [allM, allM_app a, List.append_assoc, Bool.and_assoc]
theorem allL_snoc (a : List Lv) (x : Lv) : allL [] (a ++ [x]) = (allL [] a && (levOK x && !hasL a x.nm)) := by simp [allL_app, allL]
theorem allM_snoc (a : List Sm) (x : Sm) : allM [] (a ++ [x]) = (allM [] a && (smOK x && !hasM a x.nm)) := by simp [allM_app, allM]
theorem allL_take {l : List Lv} (h : allL [] l = true) (n : Nat) : allL [] (l.take n) = true := by
  rw [← List.take_append_drop n l, allL_app] at h
  simp only [Bool.and_eq_true] at h
  exact h.1
theorem allM_take {l : List Sm} (h : allM [] l = true) (n : Nat) : allM [] (l.take n) = true := by
  rw [← List.take_append_drop n l, allM_app] at h
  simp only [Bool.and_eq_true] at h
  exact h.1

theorem num_of {n : Int} {a b : Int} (ha : 0 ≤ a) (hb : b ≤ 999999999) (h : inB n a b = true) : numB (Lib.decDigits n.toNat) a b = true ∧ numV (Lib.decDigits n.toNat) a b = n := by
  simp only [inB, Bool.and_eq_true, decide_eq_true_eq] at h
  have h1 : numForm (Lib.decDigits n.toNat) = true := num_of_dig (by omega)
  have h2 : valN (Lib.decDigits n.toNat) = n.toNat := dig_val _
  have h3 : numberF (Lib.decDigits n.toNat) a b = some n := by
    unfold numberF
    rw [if_pos ⟨h1, by rw [h2]; omega, by rw [h2]; omega⟩, h2]
    congr 1
    omega
  unfold numB numV
  rw [h3]
  exact ⟨rfl, rfl⟩

theorem allW_no (a b : Int) : numB ALLW a b = false := by
  unfold numB numberF
  rw [if_neg]
  · rfl
  · rintro ⟨h, _⟩
    have : numForm ALLW = false := by decide
    rw [this] at h
    cases h

end Go.Proofs.YtflpgbkdjelaaaaDoor

/- A formed configuration is told in lines, and read as it was told: plain laws. -/
namespace Go.Proofs.YtflpgbkdjelaaaaDoor
open Go Go.Proofs Go.Ua Go.Extern
set_option linter.unusedVariables false
set_option linter.unusedSimpArgs false

def digI (n : Int) : Wd := Lib.decDigits n.toNat
def borW (b : Int) : Wd := if b = -1 then ALLW else digI b
def byW (b : Int) : Wd := if b = 1 then USER else if b = 2 then SPACE else NONE
def levW (l : Lv) : List Wd :=
  if l.kd = 1 then [LEVEL, l.nm, EXEMPT]
  else if l.kd = 2 then [LEVEL, l.nm, digI l.sh, digI l.ld, borW l.bo, REJECT]
  else [LEVEL, l.nm, digI l.sh, digI l.ld, borW l.bo, QUEUE, digI l.qu, digI l.ha, digI l.le, digI l.wa, digI l.gu]
def rulW (r : Rl) : List Wd := [RULE, joinF r.us, joinF r.gs, joinF r.vs, joinF r.rs, joinF r.ps]
def sch1 (s : Sm) : List Wd := [SCHEMA, s.nm, s.lv, digI s.rk, byW s.bb]
def schW (s : Sm) : List (List Wd) := sch1 s :: s.rl.map rulW
def headW (c : Cf) : List (List Wd) := (if c.tt = 0 then [] else [[TOTAL, digI c.tt]]) ++ ((if c.pe = 0 then [] else [[PERIOD, digI c.pe]]) ++ (if c.pr = 0 then [] else [[SEATS, digI c.pr, digI c.mo]]))
def cfW (c : Cf) : List (List Wd) := headW c ++ (c.ls.map levW ++ (c.ss.map schW).flatten)

/-- Lines, one by one. -/
def runL : Cf → List (List Wd) → Option Cf
  | c, [] => some c
  | c, w :: r => if linE c w = 0 then runL (linA c w) r else none
theorem runL_app : ∀ (a : List (List Wd)) (c : Cf) (b : List (List Wd)), runL c (a ++ b) = (runL c a).bind fun d => runL d b
  | [], c, b => rfl
  | w :: a, c, b => by
    simp only [List.cons_append, runL]
    split
    · exact runL_app a _ b
    · rfl
theorem tot_line {c : Cf} {n : Int} (h0 : c.tt = 0) (h : inB n 1 4096 = true) : linE c [TOTAL, digI n] = 0 ∧ linA c [TOTAL, digI n] = { c with tt := n } := by
  obtain ⟨g1, g2⟩ := num_of (a := 1) (by decide) (by decide) h
  refine ⟨?_, ?_⟩
  · show (if TOTAL = TOTAL then totE c [TOTAL, digI n] else _) = 0
    rw [if_pos rfl, totE, if_neg (by simp), if_neg, if_neg (by simp [h0])]
    show ¬ numB (digI n) 1 4096 = false
    rw [digI, g1]; decide
  · show (if TOTAL = TOTAL then { c with tt := numV (digI n) 1 4096 } else _) = _
    rw [if_pos rfl, digI, g2]
theorem per_line {c : Cf} {n : Int} (h0 : c.pe = 0) (h : inB n 1 1000 = true) : linE c [PERIOD, digI n] = 0 ∧ linA c [PERIOD, digI n] = { c with pe := n } := by
  obtain ⟨g1, g2⟩ := num_of (a := 1) (by decide) (by decide) h
  refine ⟨?_, ?_⟩
  · show (if PERIOD = TOTAL then _ else if PERIOD = PERIOD then perE c [PERIOD, digI n] else _) = 0
    rw [if_neg (by decide), if_pos rfl, perE, if_neg (by simp), if_neg, if_neg (by simp [h0])]
    show ¬ numB (digI n) 1 1000 = false
    rw [digI, g1]; decide
  · show (if PERIOD = TOTAL then _ else if PERIOD = PERIOD then { c with pe := numV (digI n) 1 1000 } else _) = _
    rw [if_neg (by decide), if_pos rfl, digI, g2]
theorem sea_line {c : Cf} {n m : Int} (h0 : c.pr = 0) (h : inB n 1 1048576 = true) (hm : inB m 1 16 = true) : linE c [SEATS, digI n, digI m] = 0 ∧ linA c [SEATS, digI n, digI m] = { c with pr := n, mo := m } := by
  obtain ⟨g1, g2⟩ := num_of (a := 1) (by decide) (by decide) h
  obtain ⟨g3, g4⟩ := num_of (a := 1) (by decide) (by decide) hm
  refine ⟨?_, ?_⟩
  · show (if SEATS = TOTAL then _ else if SEATS = PERIOD then _ else if SEATS = SEATS then seaE c [SEATS, digI n, digI m] else _) = 0
    rw [if_neg (by decide), if_neg (by decide), if_pos rfl, seaE, if_neg (by simp), if_neg, if_neg (by simp [h0])]
    show ¬ (numB (digI n) 1 1048576 && numB (digI m) 1 16) = false
    rw [digI, digI, g1, g3]; decide
  · show (if SEATS = TOTAL then _ else if SEATS = PERIOD then _ else if SEATS = SEATS then { c with pr := numV (digI n) 1 1048576, mo := numV (digI m) 1 16 } else _) = _
    rw [if_neg (by decide), if_neg (by decide), if_pos rfl, digI, digI, g2, g4]

theorem bor_of {b : Int} (h : inB b (-1) 1000 = true) : borB (borW b) = true ∧ borV (borW b) = b := by
  unfold borW
  split
  · rename_i e
    exact ⟨rfl, by rw [e]; rfl⟩
  · rename_i hne
    have h' : inB b 0 1000 = true := by simp only [inB, Bool.and_eq_true, decide_eq_true_eq] at h ⊢; omega
    obtain ⟨g1, g2⟩ := num_of (a := 0) (by decide) (by decide) h'
    have hn : digI b ≠ ALLW := fun e => by
      have := allW_no 0 1000
      rw [← e, digI, g1] at this
      cases this
    exact ⟨by rw [borB, decide_eq_false hn, digI, g1]; rfl, by rw [borV, if_neg hn, digI, g2]⟩

theorem inB_iff {n a b : Int} : inB n a b = true ↔ a ≤ n ∧ n ≤ b := by simp [inB]
theorem lev_line {c : Cf} {l : Lv} (h : levOK l = true) (h1 : hasL c.ls l.nm = false) (h2 : c.ls.length < 16) : linE c (levW l) = 0 ∧ linA c (levW l) = { c with ls := c.ls ++ [l] } := by
  have w0 : wAt (levW l) 0 = LEVEL := by unfold levW; split; rfl; split; rfl; rfl
  have w1 : wAt (levW l) 1 = l.nm := by unfold levW; split; rfl; split; rfl; rfl
  have hn : nameF l.nm = true := by simp only [levOK, Bool.and_eq_true] at h; exact h.1
  have key : ∀ k, kindL (levW l) = k → k ≠ 0 → (k ≠ 1 → limB (levW l) = true) → (k = 3 → queB (levW l) = true) → lvOf (levW l) = l → linE c (levW l) = 0 ∧ linA c (levW l) = { c with ls := c.ls ++ [l] } := by
    intro k hk k0 hl hq hv
    refine ⟨?_, ?_⟩
    · unfold linE
      rw [w0, if_neg (by decide), if_neg (by decide), if_neg (by decide), if_pos rfl, levE, hk, w1, if_neg k0, if_neg (by rw [hn]; decide), if_neg, if_neg, if_neg (by rw [h1]; decide), if_neg (by omega)]
      · rintro ⟨a, b⟩; rw [hq a] at b; cases b
      · rintro ⟨a, b⟩; rw [hl a] at b; cases b
    · unfold linA
      rw [w0, if_neg (by decide), if_neg (by decide), if_neg (by decide), if_pos rfl, hv]
  obtain ⟨nm, kd, sh, ld, bo, qu, ha, le, wa, gu⟩ := l
  simp only [levOK, Bool.and_eq_true] at h
  obtain ⟨_, h⟩ := h
  split at h
  · rename_i e
    try simp only at e
    subst e
    simp only [Bool.and_eq_true, decide_eq_true_eq] at h
    obtain ⟨rfl, rfl, rfl, rfl, rfl, rfl, rfl, rfl⟩ := h
    exact key 1 rfl (by decide) (fun h => absurd rfl h) (fun h => by cases h) rfl
  split at h
  · rename_i e0 e
    try simp only at e
    subst e
    simp only [Bool.and_eq_true, decide_eq_true_eq] at h
    obtain ⟨⟨rfl, rfl, rfl, rfl, rfl⟩, g1, g2, g3⟩ := h
    obtain ⟨a1, a2⟩ := num_of (a := 0) (by decide) (by decide) g1
    obtain ⟨b1, b2⟩ := num_of (a := 0) (by decide) (by decide) g2
    obtain ⟨d1, d2⟩ := bor_of g3
    have hk : kindL (levW ⟨nm, 2, sh, ld, bo, 0, 0, 0, 0, 0⟩) = 2 := by
      unfold kindL levW
      simp [wAt]
    refine key 2 hk (by decide) (fun _ => ?_) (fun h => by cases h) ?_
    · show (numB (digI sh) 0 10000 && (numB (digI ld) 0 100 && borB (borW bo))) = true
      rw [digI, digI, a1, b1, d1]; rfl
    · unfold lvOf
      rw [hk, if_neg (by decide), if_pos rfl]
      show Lv.mk nm 2 (numV (digI sh) 0 10000) (numV (digI ld) 0 100) (borV (borW bo)) 0 0 0 0 0 = _
      rw [digI, digI, a2, b2, d2]
  split at h
  · rename_i e0 e1 e
    try simp only at e
    subst e
    simp only [Bool.and_eq_true] at h
    obtain ⟨⟨q1, q2, q3, q4, q5⟩, g1, g2, g3⟩ := h
    obtain ⟨a1, a2⟩ := num_of (a := 0) (by decide) (by decide) g1
    obtain ⟨b1, b2⟩ := num_of (a := 0) (by decide) (by decide) g2
    obtain ⟨d1, d2⟩ := bor_of g3
    obtain ⟨r1, s1⟩ := num_of (a := 1) (by decide) (by decide) q1
    obtain ⟨r2, s2⟩ := num_of (a := 1) (by decide) (by decide) q2
    obtain ⟨r3, s3⟩ := num_of (a := 1) (by decide) (by decide) q3
    obtain ⟨r4, s4⟩ := num_of (a := 1) (by decide) (by decide) q4
    obtain ⟨r5, s5⟩ := num_of (a := 1) (by decide) (by decide) q5
    have hk : kindL (levW ⟨nm, 3, sh, ld, bo, qu, ha, le, wa, gu⟩) = 3 := by
      unfold kindL levW
      simp [wAt]
    refine key 3 hk (by decide) (fun _ => ?_) (fun _ => ?_) ?_
    · show (numB (digI sh) 0 10000 && (numB (digI ld) 0 100 && borB (borW bo))) = true
      rw [digI, digI, a1, b1, d1]; rfl
    · show (numB (digI qu) 1 64 && (numB (digI ha) 1 8 && (numB (digI le) 1 64 && (numB (digI wa) 1 1000 && numB (digI gu) 1 1000)))) = true
      simp only [digI]
      rw [r1, r2, r3, r4, r5]; rfl
    · unfold lvOf
      rw [hk, if_neg (by decide), if_neg (by decide)]
      show Lv.mk nm 3 (numV (digI sh) 0 10000) (numV (digI ld) 0 100) (borV (borW bo)) (numV (digI qu) 1 64) (numV (digI ha) 1 8) (numV (digI le) 1 64) (numV (digI wa) 1 1000) (numV (digI gu) 1 1000) = _
      simp only [digI]
      rw [a2, b2, d2, s1, s2, s3, s4, s5]
  · cases h

theorem by_of {b : Int} (h : inB b 0 2 = true) : byB (byW b) = true ∧ byV (byW b) = b := by
  rw [inB_iff] at h
  have : b = 0 ∨ b = 1 ∨ b = 2 := by omega
  rcases this with rfl | rfl | rfl <;> exact ⟨rfl, rfl⟩
theorem sch_line {c : Cf} {s : Sm} (h : smOK s = true) (h1 : hasM c.ss s.nm = false) (h2 : c.ss.length < 32) : linE c (sch1 s) = 0 ∧ linA c (sch1 s) = { c with ss := c.ss ++ [⟨s.nm, s.lv, s.rk, s.bb, []⟩] } := by
  simp only [smOK, Bool.and_eq_true] at h
  obtain ⟨n1, n2, r, b, _, _⟩ := h
  obtain ⟨a1, a2⟩ := num_of (a := 1) (by decide) (by decide) r
  obtain ⟨b1, b2⟩ := by_of b
  refine ⟨?_, ?_⟩
  · show (if SCHEMA = TOTAL then _ else if SCHEMA = PERIOD then _ else if SCHEMA = SEATS then _ else if SCHEMA = LEVEL then _ else if SCHEMA = SCHEMA then schE c (sch1 s) else _) = 0
    rw [if_neg (by decide), if_neg (by decide), if_neg (by decide), if_neg (by decide), if_pos rfl, schE, if_neg (by simp [sch1]), if_neg, if_neg, if_neg, if_neg, if_neg (by omega)]
    · show ¬ hasM c.ss s.nm = true; rw [h1]; decide
    · show ¬ byB (byW s.bb) = false; rw [b1]; decide
    · show ¬ numB (digI s.rk) 1 10000 = false; rw [digI, a1]; decide
    · show ¬ (nameF s.nm && nameF s.lv) = false; rw [n1, n2]; decide
  · show (if SCHEMA = TOTAL then _ else if SCHEMA = PERIOD then _ else if SCHEMA = SEATS then _ else if SCHEMA = LEVEL then _ else if SCHEMA = SCHEMA then { c with ss := c.ss ++ [smOf (sch1 s)] } else _) = _
    rw [if_neg (by decide), if_neg (by decide), if_neg (by decide), if_neg (by decide), if_pos rfl]
    show { c with ss := c.ss ++ [Sm.mk s.nm s.lv (numV (digI s.rk) 1 10000) (byV (byW s.bb)) []] } = _
    rw [digI, a2, b2]
theorem lis_of {l : List Wd} (h : goodF l = true) : listB (joinF l) = true ∧ lisV (joinF l) = l ∧ joinF l ≠ [] := by
  have hne : joinF l ≠ [] := by
    unfold joinF
    rw [if_pos h]
    split
    · simp
    · rename_i hl
      obtain ⟨x, r, rfl⟩ := List.exists_cons_of_ne_nil hl
      intro e
      have hx : x ≠ [] := by
        unfold goodF at h
        simp only [Bool.or_eq_true, Bool.and_eq_true, beq_iff_eq] at h
        rcases h with h | h
        · injection h with h _; rw [h]; simp
        · have := List.all_eq_true.1 h.1.1 x (by simp)
          exact (word_parts this).1
      cases r with
      | nil => rw [Lib.join_one] at e; exact hx e
      | cons y r => rw [join_cons2] at e; simp at e
  have := list_join hne
  exact ⟨by rw [listB, this]; rfl, by rw [lisV, this]; rfl, hne⟩
theorem rul_line {c : Cf} {a : List Sm} {s : Sm} {r : Rl} (hs : c.ss = a ++ [s]) (hr : rlOK r = true) (hl : s.rl.length < 8) : linE c (rulW r) = 0 ∧ linA c (rulW r) = { c with ss := a ++ [⟨s.nm, s.lv, s.rk, s.bb, s.rl ++ [r]⟩] } := by
  simp only [rlOK, Bool.and_eq_true] at hr
  obtain ⟨g1, g2, g3, g4, g5⟩ := hr
  obtain ⟨a1, b1, _⟩ := lis_of g1
  obtain ⟨a2, b2, _⟩ := lis_of g2
  obtain ⟨a3, b3, _⟩ := lis_of g3
  obtain ⟨a4, b4, _⟩ := lis_of g4
  obtain ⟨a5, b5, _⟩ := lis_of g5
  have hla : lastR c = s.rl := by rw [lastR, hs]; simp
  refine ⟨?_, ?_⟩
  · show (if RULE = TOTAL then _ else if RULE = PERIOD then _ else if RULE = SEATS then _ else if RULE = LEVEL then _ else if RULE = SCHEMA then _ else if RULE = RULE then rulE c (rulW r) else _) = 0
    rw [if_neg (by decide), if_neg (by decide), if_neg (by decide), if_neg (by decide), if_neg (by decide), if_pos rfl, rulE, if_neg, if_neg, if_neg]
    · rw [hla]; omega
    · show ¬ (listB (joinF r.us) && (listB (joinF r.gs) && (listB (joinF r.vs) && (listB (joinF r.rs) && listB (joinF r.ps))))) = false
      rw [a1, a2, a3, a4, a5]; decide
    · rw [hs]; simp [rulW]
  · show (if RULE = TOTAL then _ else if RULE = PERIOD then _ else if RULE = SEATS then _ else if RULE = LEVEL then _ else if RULE = SCHEMA then _ else { c with ss := addR c.ss (rlOf (rulW r)) }) = _
    rw [if_neg (by decide), if_neg (by decide), if_neg (by decide), if_neg (by decide), if_neg (by decide)]
    have : rlOf (rulW r) = r := by
      show Rl.mk (lisV (joinF r.us)) (lisV (joinF r.gs)) (lisV (joinF r.vs)) (lisV (joinF r.rs)) (lisV (joinF r.ps)) = r
      rw [b1, b2, b3, b4, b5]
    rw [this, hs, addR]
    simp

theorem run_levels : ∀ (b : List Lv) (c : Cf), allL [] (c.ls ++ b) = true → c.ls.length + b.length ≤ 16 → runL c (b.map levW) = some { c with ls := c.ls ++ b }
  | [], c, h, hl => by simp [runL]
  | x :: b, c, h, hl => by
    have h' := h
    rw [allL_app] at h'
    simp only [allL, List.nil_append, Bool.and_eq_true, Bool.not_eq_eq_eq_not, Bool.not_true] at h'
    obtain ⟨_, h1, h2, _⟩ := h'
    simp only [List.length_cons] at hl
    obtain ⟨g1, g2⟩ := lev_line h1 h2 (by omega)
    rw [List.map_cons, runL, if_pos g1, g2, run_levels b _ (by simpa using h) (by simp; omega)]
    simp
theorem run_rules : ∀ (q : List Rl) (c : Cf) (a : List Sm) (s : Sm), c.ss = a ++ [s] → q.all rlOK = true → s.rl.length + q.length ≤ 8 → runL c (q.map rulW) = some { c with ss := a ++ [⟨s.nm, s.lv, s.rk, s.bb, s.rl ++ q⟩] }
  | [], c, a, s, hs, h, hl => by simp [runL, ← hs]
  | x :: q, c, a, s, hs, h, hl => by
    simp only [List.all_cons, Bool.and_eq_true] at h
    simp only [List.length_cons] at hl
    obtain ⟨g1, g2⟩ := rul_line hs h.1 (by omega)
    rw [List.map_cons, runL, if_pos g1, g2, run_rules q _ a _ rfl h.2 (by simp; omega)]
    simp
theorem run_schemas : ∀ (b : List Sm) (c : Cf), allM [] (c.ss ++ b) = true → c.ss.length + b.length ≤ 32 → runL c (b.map schW).flatten = some { c with ss := c.ss ++ b }
  | [], c, h, hl => by simp [runL]
  | x :: b, c, h, hl => by
    have h' := h
    rw [allM_app] at h'
    simp only [allM, List.nil_append, Bool.and_eq_true, Bool.not_eq_eq_eq_not, Bool.not_true] at h'
    obtain ⟨_, h1, h2, _⟩ := h'
    simp only [List.length_cons] at hl
    obtain ⟨g1, g2⟩ := sch_line h1 h2 (by omega)
    have hx := h1
    simp only [smOK, Bool.and_eq_true, decide_eq_true_eq] at hx
    obtain ⟨_, _, _, _, hx5, hx6⟩ := hx
    rw [List.map_cons, List.flatten_cons, runL_app, schW, runL, if_pos g1, g2, run_rules x.rl _ c.ss ⟨x.nm, x.lv, x.rk, x.bb, []⟩ rfl hx6 (by simpa using hx5)]
    simp only [Option.bind_some, List.nil_append]
    rw [run_schemas b _ (by simpa using h) (by simp; omega)]
    simp
/-- What is told is read as it was. -/
theorem run_told {c : Cf} (h : formC c = true) : runL zeroC (cfW c) = some c := by
  simp only [formC, Bool.and_eq_true, decide_eq_true_eq] at h
  obtain ⟨c1, c2, c3, c4, c5, c6, c7, c8, c9⟩ := h
  rw [inB_iff] at c1 c2 c3 c4
  have hh : runL zeroC (headW c) = some ⟨c.tt, c.pe, c.pr, c.mo, [], []⟩ := by
    unfold headW
    have t1 : runL zeroC (if c.tt = 0 then [] else [[TOTAL, digI c.tt]]) = some ⟨c.tt, 0, 0, 0, [], []⟩ := by
      split
      · rename_i e; rw [e]; rfl
      · obtain ⟨g1, g2⟩ := tot_line (c := zeroC) (n := c.tt) rfl (by rw [inB_iff]; omega)
        rw [runL, if_pos g1, g2]; rfl
    have t2 : runL ⟨c.tt, 0, 0, 0, [], []⟩ (if c.pe = 0 then [] else [[PERIOD, digI c.pe]]) = some ⟨c.tt, c.pe, 0, 0, [], []⟩ := by
      split
      · rename_i e; rw [e]; rfl
      · obtain ⟨g1, g2⟩ := per_line (c := ⟨c.tt, 0, 0, 0, [], []⟩) (n := c.pe) rfl (by rw [inB_iff]; omega)
        rw [runL, if_pos g1, g2]; rfl
    have t3 : runL ⟨c.tt, c.pe, 0, 0, [], []⟩ (if c.pr = 0 then [] else [[SEATS, digI c.pr, digI c.mo]]) = some ⟨c.tt, c.pe, c.pr, c.mo, [], []⟩ := by
      split
      · rename_i e; rw [e, c5.1 e]; rfl
      · rename_i e
        have : ¬ c.mo = 0 := fun h => e (c5.2 h)
        obtain ⟨g1, g2⟩ := sea_line (c := ⟨c.tt, c.pe, 0, 0, [], []⟩) (n := c.pr) (m := c.mo) rfl (by rw [inB_iff]; omega) (by rw [inB_iff]; omega)
        rw [runL, if_pos g1, g2]; rfl
    rw [runL_app, t1, Option.bind_some, runL_app, t2, Option.bind_some, t3]
  rw [cfW, runL_app, hh, Option.bind_some, runL_app, run_levels c.ls _ (by simpa using c8) (by simpa using c6), Option.bind_some, run_schemas c.ss _ (by simpa using c9) (by simpa using c7)]
  simp
end Go.Proofs.YtflpgbkdjelaaaaDoor

/- Lines of words: plain laws; lists of bytes. -/
namespace Go.Proofs.YtflpgbkdjelaaaaDoor
open Go Go.Proofs Go.Ua Go.Extern
set_option linter.unusedVariables false
set_option linter.unusedSimpArgs false

theorem word_no {w : List UInt8} (h : wordF w = true) : w ≠ [] ∧ (32 : UInt8) ∉ w ∧ (10 : UInt8) ∉ w := by
  refine ⟨(word_parts h).1, fun hm => ?_, fun hm => ?_⟩
  · rw [wordF_no hm (.inr (.inl rfl))] at h; cases h
  · rw [wordF_no hm (.inr (.inr rfl))] at h; cases h
def linesOf (ws : List (List UInt8)) : List UInt8 := (ws.map fun w => w ++ [10]).flatten
end Go.Proofs.YtflpgbkdjelaaaaDoor

