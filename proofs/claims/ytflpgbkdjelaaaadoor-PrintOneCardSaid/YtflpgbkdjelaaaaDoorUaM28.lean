/- The library of this claim and its walks, part 28, joined out of smaller texts. No statement stands in it. -/
import Derived.Test.YtflpgbkdjelaaaaDoorUaM21
import Derived.Test.YtflpgbkdjelaaaaDoorUaM27
import Derived.Shelf.Strings.Builder1
/- strings.Builder: its copy check, what is written to it, what it holds. -/
namespace Go.Proofs.YtflpgbkdjelaaaaDoor
open Go Go.Proofs Go.Ua Go.Extern Go.Shelf
set_option linter.unusedVariables false
set_option linter.unusedSimpArgs false

theorem lays240 : Lays.n240 Tryd.prog Tryd.lays156_ren := { Tryd.lays156 with }
theorem calls_ret {P : Program} {f : FuncId} {vs : Array Value} {w : World} {Q R : Ending → World → Prop} (h : Calls P f vs w Q) (hq : ∀ e w', Q e w' → R e w') : Calls P f vs w R := h.mono hq

theorem copyCheck_spec (bs : List Dat) : ASpec Tryd.prog 61 [.ptr 0 0 0 2] [(0, .cs 54 [.opt 0, .row 1 1]), (1, .ds 5 1 bs)] 2 (fun y h1 fr1 => y = .tup [] ∧ h1 = [(0, .cs 54 [.opt 0, .row 1 1]), (1, .ds 5 1 bs)] ∧ fr1 = 2) := by
  refine ⟨enters_of Tryd.func61 (by kernel_rfl) rfl, fun X L w ι vs h1 hg h2 h3 => ?_⟩
  obtain ⟨v, rfl⟩ : ∃ v, vs = [v] := by
    match vs, h2 with
    | [v], _ => exact ⟨v, rfl⟩
  have hv := h3 0 _ v rfl rfl
  have hB := h1.hp 0 _ (show Go.Ua.look 0 ([(0, .cs 54 [.opt 0, .row 1 1]), (1, .ds 5 1 bs)] : List (Nat × Blk)) = some _ from rfl)
  cases hv with
  | ptr _ _ _ _ b c l hi =>
  cases hB with
  | cs _ _ b' cap l' cur hi' hb hl hone hr =>
  rw [hi] at hi'
  cases hi'
  obtain ⟨c0, c1, rfl⟩ : ∃ c0 c1, cur = [c0, c1] := by
    match cur, hl with
    | [c0, c1], _ => exact ⟨c0, c1, rfl⟩
  have r0 := hr 0 _ c0 rfl rfl
  have same : Res X L ⟨w, ι, 2⟩ (fun y h1 fr1 => y = .tup [] ∧ h1 = [(0, .cs 54 [.opt 0, .row 1 1]), (1, .ds 5 1 bs)] ∧ fr1 = 2) (.returned (.tuple #[])) w :=
    ⟨_, _, _, _, ι, rfl, ⟨rfl, rfl, rfl⟩, .tup [] [] rfl (fun i c v h => by simp at h), h1⟩
  cases r0 with
  | opt _ b2 c2 l2 _ hi2 hv2 =>
  rw [hi] at hi2
  cases hi2
  show Calls Tryd.prog 61 #[.pointer (some ⟨b, 0 * 2 + 0, none⟩)] w _
  rw [show 0 * 2 + 0 = 0 from rfl]
  rcases hv2 with rfl | rfl
  · refine calls_ret (Any.Builder_copyCheck_fresh lays240 Tryd.Builder_Extra_156.toX72 b w ?_ ?_ ?_) ?_
    · simp [World.cell?, hb]
    · simp [World.shape?, hb]; rfl
    · simp [World.frozen?, hb]
    · rintro e w' ⟨rfl, rfl⟩
      have HR : Rel X L ⟨w, ι, 2⟩ 0 ι ⟨[], [(0, .cs 54 [.opt 0, .row 1 1]), (1, .ds 5 1 bs)], 2⟩ { tmps := #[], defers := [] } w := ⟨h1, fun t x ht => by simp [Go.Ua.look] at ht, rfl, rfl⟩
      have hW : ∀ (R' : Rd) (ι' : Io) (w' : World), (∀ b o v, rdOf L ι ([(0, .cs 54 [.opt 0, .row 1 1]), (1, .ds 5 1 bs)] : List (Nat × Blk)) w b o v → R' b o v) → (∀ n p, ι n = some p → ι' n = some p) → w'.heap[b]? = some (.cells [Value.pointer (some ⟨b, 0, none⟩), c1].toArray 54 (0, 0)) → RepB R' ι' w' 0 (.cs 54 [.opt 0, .row 1 1]) := by
        intro R' ι' w' hR hι hw'
        refine .cs _ _ b c l _ (hι _ _ hi) hw' rfl (fun v hv => ?_) (fun j cc v hc hv => ?_)
        · simp only [List.mem_cons, List.not_mem_nil, or_false] at hv
          rcases hv with rfl | rfl
          · rfl
          · exact hone _ (by simp)
        · match j, hc, hv with
          | 0, hc, hv => cases hc; cases hv; exact .opt 0 b c l _ (hι _ _ hi) (.inr rfl)
          | 1, hc, hv => exact (hr 1 cc v hc hv).mono hR hι
          | j + 2, hc, hv => simp at hc
      obtain ⟨ι', H', hsame⟩ := HR.write (n := 0) rfl hi hb hW
      rw [setCell_eq_setRow w b 0 _ _ _ _ hb]
      exact ⟨_, _, _, _, ι', rfl, ⟨rfl, rfl, rfl⟩, .tup [] [] rfl (fun i c v h => by simp at h), H'.hr⟩
  · refine calls_ret (Any.Builder_copyCheck_used lays240 Tryd.Builder_Extra_156.toX72 b w ?_) ?_
    · simp [World.cell?, hb]
    · rintro e w' ⟨rfl, rfl⟩
      exact same
def φCopyCheck  : Nat → List AV → List (Nat × Blk) → Option (Bool × AV × List (Nat × Blk) × Nat)
  | 2, [.ptr 0 0 0 2], [(0, .cs 54 [.opt 0, .row 1 1]), (1, .ds 5 1 bs)] => some (true, .tup [], [(0, .cs 54 [.opt 0, .row 1 1]), (1, .ds 5 1 bs)], 2)
  | _, _, _ => none
theorem φCopyCheck_ok : MSpOK Tryd.prog 61 (φCopyCheck ) := by
  intro fr xs h b x h1 fr1 h hb
  unfold φCopyCheck at h
  split at h
  · simp only [Option.some.injEq, Prod.mk.injEq] at h
    obtain ⟨rfl, rfl, rfl, rfl⟩ := h
    exact copyCheck_spec _
  · cases h

def byD (s : List UInt8) : List Dat := s.map fun c => .s (.int .u8 c.toNat)
theorem byD_app (a b : List UInt8) : byD (a ++ b) = byD a ++ byD b := by simp [byD]
theorem byD_length (a : List UInt8) : (byD a).length = a.length := by simp [byD]
/-- Room in the builder. -/
def roomB (bs : List Dat) (n : Nat) : Bool := decide (bs.length + n ≤ 70368744177664)
theorem fits_at {F : Fam} (hF : F = Fam.real) {bs : List Dat} {s : List UInt8} (h : bs.length + s.length ≤ 70368744177664) : F .fits 1 (F .appD bs (F .bytesD s)) = true := by
  rw [hF]
  show decide ((bs ++ s.map fun c => Dat.s (.int .u8 c.toNat)).length * 1 ≤ 70368744177664) = true
  exact decide_eq_true (by simp; omega)
theorem fits_at1 {F : Fam} (hF : F = Fam.real) {bs : List Dat} {x : Dat} (h : bs.length + 1 ≤ 70368744177664) : F .fits 1 (F .appD bs [x]) = true := by
  rw [hF]
  show decide ((bs ++ [x]).length * 1 ≤ 70368744177664) = true
  exact decide_eq_true (by simp; omega)
theorem writeString_spec (bs : List Dat) (s : List UInt8) (h : roomB bs s.length = true) : ASpec Tryd.prog 37 [.ptr 0 0 0 2, .d (.s (.str s))] [(0, .cs 54 [.opt 0, .row 1 1]), (1, .ds 5 1 bs)] 2 (fun y h1 fr1 => y = .tup [.d (.s (.int .i64 s.length)), .d (.s .if0)] ∧ h1 = [(0, .cs 54 [.opt 0, .row 2 1]), (2, .ds 5 1 (bs ++ byD s))] ∧ fr1 = 3) := by
  have hG : TblOK Tryd.prog [(61, .m (φCopyCheck ))] := ⟨φCopyCheck_ok, trivial⟩
  have h1 := of_decide_eq_true h
  refine ASpec.enterK Tryd.func37 (by kernel_rfl) rfl (Nat.le_of_ble_eq_true rfl) fun hok cx hnt hfr => ?_
  obtain ⟨F, hF⟩ := real_ex
  refine AK.runTn hF tabOK hmix hnt [] false _ hG (Nat.le_of_eq hfr) ?_
  conv => arg 4; cbv
  refine AKt.need rfl fun _ => AKt.need (fits_at hF h1) fun _ => ?_
  repeat' (first | with_reducible (first | refine AKt.have ?_ | refine AKt.tt ?_ | refine AKt.ff ?_ | refine AKt.yes (by assumption) ?_ | refine AKt.no (by assumption) ?_ | refine AKt.node (fun hb => ?_) (fun hb => ?_) | refine AKt.need ?_ (fun hb => ?_) | refine AKt.leaf ?_) | ((with_reducible show _ = true); assumption))
  first | refine AKp.doneI tabOK [0, 1, 2] hfr (by rfl) (by rfl) (by rfl) rfl rfl rfl ?_ ?_ | refine AKp.endI tabOK [0, 1, 2] hfr (by rfl) (by rfl) (by rfl) rfl rfl rfl ?_ ?_
  all_goals show _ = _
  · simp only [hF, f_ltI, f_leI, f_eqI, f_eqS, f_eqB, f_not, f_andB, f_orB, f_lenS, f_lenD, f_hasS, f_atS, f_hasC, f_subS, f_hasCat, f_app, f_wrap, f_add, f_sub, f_mul, f_appD, f_fits, f_hasV, f_subV, decide_eq_true_eq, decide_eq_false_iff_not, beq_iff_eq, beq_eq_false_iff_ne, Bool.and_eq_true, Bool.and_eq_false_iff, Bool.not_eq_true, Bool.not_eq_false, Bool.not_eq_eq_eq_not, Bool.not_true, Bool.not_false] at *
    rfl
  · simp only [hF, f_ltI, f_leI, f_eqI, f_eqS, f_eqB, f_not, f_andB, f_orB, f_lenS, f_lenD, f_hasS, f_atS, f_hasC, f_subS, f_hasCat, f_app, f_wrap, f_add, f_sub, f_mul, f_appD, f_fits, f_hasV, f_subV, decide_eq_true_eq, decide_eq_false_iff_not, beq_iff_eq, beq_eq_false_iff_ne, Bool.and_eq_true, Bool.and_eq_false_iff, Bool.not_eq_true, Bool.not_eq_false, Bool.not_eq_eq_eq_not, Bool.not_true, Bool.not_false] at *
    rfl
def φWriteString (p : List Dat → List UInt8 → Bool) (u : List UInt8 → Int) (v : List Dat → List UInt8 → List Dat) : Nat → List AV → List (Nat × Blk) → Option (Bool × AV × List (Nat × Blk) × Nat)
  | 2, [.ptr 0 0 0 2, .d (.s (.str s))], [(0, .cs 54 [.opt 0, .row 1 1]), (1, .ds 5 1 bs)] => some (p bs s, .tup [.d (.s (.int .i64 (u s))), .d (.s .if0)], [(0, .cs 54 [.opt 0, .row 2 1]), (2, .ds 5 1 (v bs s))], 3)
  | _, _, _ => none
theorem φWriteString_ok : MSpOK Tryd.prog 37 (φWriteString (fun bs s => roomB bs s.length) (fun s => s.length) (fun bs s => bs ++ byD s)) := by
  intro fr xs h b x h1 fr1 h hb
  unfold φWriteString at h
  split at h
  · simp only [Option.some.injEq, Prod.mk.injEq] at h
    obtain ⟨rfl, rfl, rfl, rfl⟩ := h
    exact writeString_spec _ _ hb
  · cases h

theorem writeByte_spec (bs : List Dat) (c : Int) (h : roomB bs 1 = true) : ASpec Tryd.prog 39 [.ptr 0 0 0 2, .d (.s (.int .u8 c))] [(0, .cs 54 [.opt 0, .row 1 1]), (1, .ds 5 1 bs)] 2 (fun y h1 fr1 => y = .d (.s .if0) ∧ h1 = [(0, .cs 54 [.opt 0, .row 2 1]), (2, .ds 5 1 (bs ++ [.s (.int .u8 c)]))] ∧ fr1 = 3) := by
  have hG : TblOK Tryd.prog [(61, .m (φCopyCheck ))] := ⟨φCopyCheck_ok, trivial⟩
  have h1 := of_decide_eq_true h
  refine ASpec.enterK Tryd.func39 (by kernel_rfl) rfl (Nat.le_of_ble_eq_true rfl) fun hok cx hnt hfr => ?_
  obtain ⟨F, hF⟩ := real_ex
  refine AK.runTn hF tabOK hmix hnt [] false _ hG (Nat.le_of_eq hfr) ?_
  conv => arg 4; cbv
  refine AKt.need rfl fun _ => AKt.need (fits_at1 hF h1) fun _ => ?_
  repeat' (first | with_reducible (first | refine AKt.have ?_ | refine AKt.tt ?_ | refine AKt.ff ?_ | refine AKt.yes (by assumption) ?_ | refine AKt.no (by assumption) ?_ | refine AKt.node (fun hb => ?_) (fun hb => ?_) | refine AKt.need ?_ (fun hb => ?_) | refine AKt.leaf ?_) | ((with_reducible show _ = true); assumption))
  first | refine AKp.doneI tabOK [0, 1, 3] hfr (by rfl) (by rfl) (by rfl) rfl rfl rfl ?_ ?_ | refine AKp.endI tabOK [0, 1, 3] hfr (by rfl) (by rfl) (by rfl) rfl rfl rfl ?_ ?_
  all_goals show _ = _
  · rfl
  · simp only [hF, f_ltI, f_leI, f_eqI, f_eqS, f_eqB, f_not, f_andB, f_orB, f_lenS, f_lenD, f_hasS, f_atS, f_hasC, f_subS, f_hasCat, f_app, f_wrap, f_add, f_sub, f_mul, f_appD, f_fits, f_hasV, f_subV, decide_eq_true_eq, decide_eq_false_iff_not, beq_iff_eq, beq_eq_false_iff_ne, Bool.and_eq_true, Bool.and_eq_false_iff, Bool.not_eq_true, Bool.not_eq_false, Bool.not_eq_eq_eq_not, Bool.not_true, Bool.not_false] at *
    rfl
def φWriteByte (p : List Dat → Bool) (v : List Dat → Int → List Dat) : Nat → List AV → List (Nat × Blk) → Option (Bool × AV × List (Nat × Blk) × Nat)
  | 2, [.ptr 0 0 0 2, .d (.s (.int .u8 c))], [(0, .cs 54 [.opt 0, .row 1 1]), (1, .ds 5 1 bs)] => some (p bs, .d (.s .if0), [(0, .cs 54 [.opt 0, .row 2 1]), (2, .ds 5 1 (v bs c))], 3)
  | _, _, _ => none
theorem φWriteByte_ok : MSpOK Tryd.prog 39 (φWriteByte (fun bs => roomB bs 1) (fun bs c => bs ++ [.s (.int .u8 c)])) := by
  intro fr xs h b x h1 fr1 h hb
  unfold φWriteByte at h
  split at h
  · simp only [Option.some.injEq, Prod.mk.injEq] at h
    obtain ⟨rfl, rfl, rfl, rfl⟩ := h
    exact writeByte_spec _ _ hb
  · cases h
end Go.Proofs.YtflpgbkdjelaaaaDoor
/- What a line says of a configuration; what is formed: plain laws. -/
namespace Go.Proofs.YtflpgbkdjelaaaaDoor
open Go Go.Proofs Go.Ua Go.Extern
set_option linter.unusedVariables false
set_option linter.unusedSimpArgs false

def TOTAL : Wd := [116, 111, 116, 97, 108]
def PERIOD : Wd := [112, 101, 114, 105, 111, 100]
def SEATS : Wd := [115, 101, 97, 116, 115]
def LEVEL : Wd := [108, 101, 118, 101, 108]
def SCHEMA : Wd := [115, 99, 104, 101, 109, 97]
def RULE : Wd := [114, 117, 108, 101]
def EXEMPT : Wd := [101, 120, 101, 109, 112, 116]
def REJECT : Wd := [114, 101, 106, 101, 99, 116]
def QUEUE : Wd := [113, 117, 101, 117, 101]
def ALLW : Wd := [97, 108, 108]
def NONE : Wd := [110, 111, 110, 101]
def USER : Wd := [117, 115, 101, 114]
def SPACE : Wd := [115, 112, 97, 99, 101]

/-- The word at a place. -/
def wAt (w : List Wd) (i : Nat) : Wd := w.getD i []

def totE (c : Cf) (w : List Wd) : Int := if w.length ≠ 2 then 2 else if numB (wAt w 1) 1 4096 = false then 8 else if c.tt ≠ 0 then 5 else 0
def perE (c : Cf) (w : List Wd) : Int := if w.length ≠ 2 then 2 else if numB (wAt w 1) 1 1000 = false then 8 else if c.pe ≠ 0 then 5 else 0
def seaE (c : Cf) (w : List Wd) : Int := if w.length ≠ 3 then 2 else if (numB (wAt w 1) 1 1048576 && numB (wAt w 2) 1 16) = false then 8 else if c.pr ≠ 0 then 5 else 0

def kindL (w : List Wd) : Int := if w.length = 3 ∧ wAt w 2 = EXEMPT then 1 else if w.length = 6 ∧ wAt w 5 = REJECT then 2 else if w.length = 11 ∧ wAt w 5 = QUEUE then 3 else 0
def borB (x : Wd) : Bool := decide (x = ALLW) || numB x 0 1000
def borV (x : Wd) : Int := if x = ALLW then -1 else numV x 0 1000
def limB (w : List Wd) : Bool := numB (wAt w 2) 0 10000 && (numB (wAt w 3) 0 100 && borB (wAt w 4))
def queB (w : List Wd) : Bool := numB (wAt w 6) 1 64 && (numB (wAt w 7) 1 8 && (numB (wAt w 8) 1 64 && (numB (wAt w 9) 1 1000 && numB (wAt w 10) 1 1000)))
def lvOf (w : List Wd) : Lv :=
  if kindL w = 1 then ⟨wAt w 1, 1, 0, 0, 0, 0, 0, 0, 0, 0⟩
  else if kindL w = 2 then ⟨wAt w 1, 2, numV (wAt w 2) 0 10000, numV (wAt w 3) 0 100, borV (wAt w 4), 0, 0, 0, 0, 0⟩
  else ⟨wAt w 1, 3, numV (wAt w 2) 0 10000, numV (wAt w 3) 0 100, borV (wAt w 4), numV (wAt w 6) 1 64, numV (wAt w 7) 1 8, numV (wAt w 8) 1 64, numV (wAt w 9) 1 1000, numV (wAt w 10) 1 1000⟩
def hasL (l : List Lv) (n : Wd) : Bool := l.any fun x => decide (x.nm = n)
def hasM (l : List Sm) (n : Wd) : Bool := l.any fun x => decide (x.nm = n)
def levE (c : Cf) (w : List Wd) : Int :=
  if kindL w = 0 then 2 else if nameF (wAt w 1) = false then 4 else if kindL w ≠ 1 ∧ limB w = false then 8 else if kindL w = 3 ∧ queB w = false then 8
  else if hasL c.ls (wAt w 1) = true then 5 else if 16 ≤ c.ls.length then 3 else 0

def byB (x : Wd) : Bool := decide (x = NONE) || (decide (x = USER) || decide (x = SPACE))
def byV (x : Wd) : Int := if x = USER then 1 else if x = SPACE then 2 else 0
def smOf (w : List Wd) : Sm := ⟨wAt w 1, wAt w 2, numV (wAt w 3) 1 10000, byV (wAt w 4), []⟩
def schE (c : Cf) (w : List Wd) : Int :=
  if w.length ≠ 5 then 2 else if (nameF (wAt w 1) && nameF (wAt w 2)) = false then 4 else if numB (wAt w 3) 1 10000 = false then 8 else if byB (wAt w 4) = false then 2
  else if hasM c.ss (wAt w 1) = true then 5 else if 32 ≤ c.ss.length then 3 else 0

def lisV (x : Wd) : List Wd := (listF x).getD []
def rlOf (w : List Wd) : Rl := ⟨lisV (wAt w 1), lisV (wAt w 2), lisV (wAt w 3), lisV (wAt w 4), lisV (wAt w 5)⟩
def lisB (w : List Wd) : Bool := listB (wAt w 1) && (listB (wAt w 2) && (listB (wAt w 3) && (listB (wAt w 4) && listB (wAt w 5))))
def lastR (c : Cf) : List Rl := (c.ss.getLastD zeroS).rl
def rulE (c : Cf) (w : List Wd) : Int :=
  if w.length ≠ 6 ∨ c.ss = [] then 2 else if lisB w = false then 2 else if 8 ≤ (lastR c).length then 3 else 0
def addR (l : List Sm) (r : Rl) : List Sm := l.dropLast ++ [⟨(l.getLastD zeroS).nm, (l.getLastD zeroS).lv, (l.getLastD zeroS).rk, (l.getLastD zeroS).bb, (l.getLastD zeroS).rl ++ [r]⟩]

def linE (c : Cf) (w : List Wd) : Int :=
  if wAt w 0 = TOTAL then totE c w else if wAt w 0 = PERIOD then perE c w else if wAt w 0 = SEATS then seaE c w
  else if wAt w 0 = LEVEL then levE c w else if wAt w 0 = SCHEMA then schE c w else if wAt w 0 = RULE then rulE c w else 2
/-- What a line adds, where it says anything. -/
def linA (c : Cf) (w : List Wd) : Cf :=
  if wAt w 0 = TOTAL then { c with tt := numV (wAt w 1) 1 4096 } else if wAt w 0 = PERIOD then { c with pe := numV (wAt w 1) 1 1000 }
  else if wAt w 0 = SEATS then { c with pr := numV (wAt w 1) 1 1048576, mo := numV (wAt w 2) 1 16 }
  else if wAt w 0 = LEVEL then { c with ls := c.ls ++ [lvOf w] } else if wAt w 0 = SCHEMA then { c with ss := c.ss ++ [smOf w] } else { c with ss := addR c.ss (rlOf w) }
/-! ### What is formed -/
def inB (n a b : Int) : Bool := decide (a ≤ n) && decide (n ≤ b)
def levOK (l : Lv) : Bool := nameF l.nm &&
  (if l.kd = 1 then decide (l.sh = 0) && (decide (l.ld = 0) && (decide (l.bo = 0) && (decide (l.qu = 0) && (decide (l.ha = 0) && (decide (l.le = 0) && (decide (l.wa = 0) && decide (l.gu = 0)))))))
   else if l.kd = 2 then (decide (l.qu = 0) && (decide (l.ha = 0) && (decide (l.le = 0) && (decide (l.wa = 0) && decide (l.gu = 0))))) && (inB l.sh 0 10000 && (inB l.ld 0 100 && inB l.bo (-1) 1000))
   else if l.kd = 3 then (inB l.qu 1 64 && (inB l.ha 1 8 && (inB l.le 1 64 && (inB l.wa 1 1000 && inB l.gu 1 1000)))) && (inB l.sh 0 10000 && (inB l.ld 0 100 && inB l.bo (-1) 1000))
   else false)
def rlOK (r : Rl) : Bool := goodF r.us && (goodF r.gs && (goodF r.vs && (goodF r.rs && goodF r.ps)))
def smOK (s : Sm) : Bool := nameF s.nm && (nameF s.lv && (inB s.rk 1 10000 && (inB s.bb 0 2 && (decide (s.rl.length ≤ 8) && s.rl.all rlOK))))
/-- One by one: each is right, and has a name of its own. -/
def allL : List Lv → List Lv → Bool
  | _, [] => true
  | p, x :: r => levOK x && (!hasL p x.nm && allL (p ++ [x]) r)
def allM : List Sm → List Sm → Bool
  | _, [] => true
  | p, x :: r => smOK x && (!hasM p x.nm && allM (p ++ [x]) r)
def formC (c : Cf) : Bool := inB c.tt 0 4096 && (inB c.pe 0 1000 && (inB c.pr 0 1048576 && (inB c.mo 0 16 && (decide (c.pr = 0 ↔ c.mo = 0) && (decide (c.ls.length ≤ 16) && (decide (c.ss.length ≤ 32) && (allL [] c.ls && allM [] c.ss)))))))

theorem allL_app : ∀ (a p b : List Lv), allL p (a ++ b) = (allL p a && allL (p ++ a) b)
  | [], p, b => by simp [allL]
  | x :: a, p, b => by simp [allL, allL_app a, List.append_assoc, Bool.and_assoc]
theorem allM_app : ∀ (a p b : List Sm), allM p (a ++ b) = (allM p a && allM (p ++ a) b)
  | [], p, b => by simp [allM]
  | x :: a, p, b => by simp [allM, allM_app a, List.append_assoc, Bool.and_assoc]
theorem allL_snoc (a : List Lv) (x : Lv) : allL [] (a ++ [x]) = (allL [] a && (levOK x && !hasL a x.nm)) := by simp [allL_app, allL]
theorem allM_snoc (a : List Sm) (x : Sm) : allM [] (a ++ [x]) = (allM [] a && (smOK x && !hasM a x.nm)) := by simp [allM_app, allM]
theorem allL_take {l : List Lv} (h : allL [] l = true) (n : Nat) : allL [] (l.take n) = true := by
  rw [← List.take_append_drop n l, allL_app] at h
  simp only [Bool.and_eq_true] at h
  exact h.1
theorem allM_take {l : List Sm} (h : allM [] l = true) (n : Nat) : allM [] (l.take n) = true := by
  rw [← List.take_append_drop n l, allM_app] at h
  simp only [Bool.and_eq_true] at h
  exact h.1

theorem num_in {w : Wd} {a b : Int} (h : numB w a b = true) : inB (numV w a b) a b = true ∧ Lib.decDigits (numV w a b).toNat = w ∧ 0 ≤ numV w a b := by
  unfold numB at h
  unfold numV
  cases hn : numberF w a b with
  | none => rw [hn] at h; cases h
  | some v =>
    unfold numberF at hn
    split at hn
    · rename_i hc
      obtain rfl := Option.some.inj hn
      obtain ⟨h1, h2, h3⟩ := hc
      have hf := h1
      simp only [numForm, Bool.and_eq_true, decide_eq_true_eq] at h1
      refine ⟨?_, ?_, ?_⟩
      · simp only [Option.getD_some, inB, Bool.and_eq_true, decide_eq_true_eq]
        exact ⟨h2, h3⟩
      · simp only [Option.getD_some, Int.toNat_natCast]
        have := num_dig h1.2 h1.1.1.2
        rw [hf] at this
        exact of_decide_eq_true this.symm
      · simp
    · cases hn
theorem num_of {n : Int} {a b : Int} (ha : 0 ≤ a) (hb : b ≤ 999999999) (h : inB n a b = true) : numB (Lib.decDigits n.toNat) a b = true ∧ numV (Lib.decDigits n.toNat) a b = n := by
  simp only [inB, Bool.and_eq_true, decide_eq_true_eq] at h
  have h1 : numForm (Lib.decDigits n.toNat) = true := num_of_dig (by omega)
  have h2 : valN (Lib.decDigits n.toNat) = n.toNat := dig_val _
  have h3 : numberF (Lib.decDigits n.toNat) a b = some n := by
    unfold numberF
    rw [if_pos ⟨h1, by rw [h2]; omega, by rw [h2]; omega⟩, h2]
    congr 1
    omega
  unfold numB numV
  rw [h3]
  exact ⟨rfl, rfl⟩

theorem allW_no (a b : Int) : numB ALLW a b = false := by
  unfold numB numberF
  rw [if_neg]
  · rfl
  · rintro ⟨h, _⟩
    have : numForm ALLW = false := by decide
    rw [this] at h
    cases h

theorem lev_ok {c : Cf} {w : List Wd} (h : levE c w = 0) : levOK (lvOf w) = true ∧ hasL c.ls (lvOf w).nm = false ∧ c.ls.length < 16 := by
  unfold levE at h
  split at h; · cases h
  rename_i h0
  split at h; · cases h
  rename_i h1
  split at h; · cases h
  rename_i h2
  split at h; · cases h
  rename_i h3
  split at h; · cases h
  rename_i h4
  split at h; · cases h
  rename_i h5
  have hk : kindL w = 1 ∨ kindL w = 2 ∨ kindL w = 3 := by
    unfold kindL at h0 ⊢
    split
    · simp
    · split
      · simp
      · split
        · simp
        · rename_i a b c; rw [if_neg a, if_neg b, if_neg c] at h0; exact absurd rfl h0
  have hn : (lvOf w).nm = wAt w 1 := by unfold lvOf; split; rfl; split; rfl; rfl
  rw [hn]
  have h1' : nameF (wAt w 1) = true := by simpa using h1
  refine ⟨?_, by simpa using h4, by omega⟩
  unfold levOK
  rw [hn, h1', Bool.true_and]
  have lim : kindL w ≠ 1 → inB (numV (wAt w 2) 0 10000) 0 10000 = true ∧ inB (numV (wAt w 3) 0 100) 0 100 = true ∧ inB (borV (wAt w 4)) (-1) 1000 = true := fun hk1 => by
    have hl : limB w = true := by
      cases hl : limB w with
      | true => rfl
      | false => exact absurd ⟨hk1, hl⟩ h2
    simp only [limB, Bool.and_eq_true] at hl
    obtain ⟨g1, g2, g3⟩ := hl
    refine ⟨(num_in g1).1, (num_in g2).1, ?_⟩
    unfold borV
    split
    · rfl
    · rename_i hne
      unfold borB at g3
      rw [decide_eq_false hne, Bool.false_or] at g3
      have := (num_in g3).1
      simp only [inB, Bool.and_eq_true, decide_eq_true_eq] at this ⊢
      omega
  rcases hk with hk | hk | hk
  · have e : lvOf w = ⟨wAt w 1, 1, 0, 0, 0, 0, 0, 0, 0, 0⟩ := by unfold lvOf; rw [if_pos hk]
    rw [e]
    rfl
  · have e : lvOf w = ⟨wAt w 1, 2, numV (wAt w 2) 0 10000, numV (wAt w 3) 0 100, borV (wAt w 4), 0, 0, 0, 0, 0⟩ := by unfold lvOf; rw [if_neg (by rw [hk]; decide), if_pos hk]
    rw [e]
    obtain ⟨g1, g2, g3⟩ := lim (by rw [hk]; decide)
    simp [g1, g2, g3]
  · have e : lvOf w = ⟨wAt w 1, 3, numV (wAt w 2) 0 10000, numV (wAt w 3) 0 100, borV (wAt w 4), numV (wAt w 6) 1 64, numV (wAt w 7) 1 8, numV (wAt w 8) 1 64, numV (wAt w 9) 1 1000, numV (wAt w 10) 1 1000⟩ := by
      unfold lvOf; rw [if_neg (by rw [hk]; decide), if_neg (by rw [hk]; decide)]
    rw [e]
    obtain ⟨g1, g2, g3⟩ := lim (by rw [hk]; decide)
    have hq : queB w = true := by
      cases hq : queB w with
      | true => rfl
      | false => exact absurd ⟨hk, hq⟩ h3
    simp only [queB, Bool.and_eq_true] at hq
    obtain ⟨q1, q2, q3, q4, q5⟩ := hq
    simp [g1, g2, g3, (num_in q1).1, (num_in q2).1, (num_in q3).1, (num_in q4).1, (num_in q5).1]

theorem sch_ok {c : Cf} {w : List Wd} (h : schE c w = 0) : smOK (smOf w) = true ∧ hasM c.ss (smOf w).nm = false ∧ c.ss.length < 32 := by
  unfold schE at h
  split at h; · cases h
  rename_i h0
  split at h; · cases h
  rename_i h1
  split at h; · cases h
  rename_i h2
  split at h; · cases h
  rename_i h3
  split at h; · cases h
  rename_i h4
  split at h; · cases h
  rename_i h5
  simp only [Bool.not_eq_false, Bool.and_eq_true] at h1 h2 h3
  refine ⟨?_, by simpa [smOf] using h4, by omega⟩
  have hb : inB (byV (wAt w 4)) 0 2 = true := by
    unfold byV
    split
    · rfl
    · split <;> rfl
  simp [smOK, smOf, h1.1, h1.2, (num_in h2).1, hb]

theorem list_good {x : Wd} (h : listB x = true) : goodF (lisV x) = true ∧ joinF (lisV x) = x := by
  unfold listB at h
  unfold lisV
  cases hl : listF x with
  | none => rw [hl] at h; cases h
  | some m =>
    have hj := join_list hl
    refine ⟨?_, by simpa using hj⟩
    simp only [Option.getD_some]
    unfold listF at hl
    split at hl
    · obtain rfl := Option.some.inj hl
      rfl
    · split at hl
      · cases hl
      · split at hl
        · rename_i hg
          obtain rfl := Option.some.inj hl
          exact hg
        · cases hl

theorem last_split {l : List Sm} (h : l ≠ []) : l = l.dropLast ++ [l.getLastD zeroS] := by
  rw [List.getLastD_eq_getLast?, List.getLast?_eq_some_getLast h]
  exact (List.dropLast_concat_getLast h).symm

theorem line_formed {c : Cf} {w : List Wd} (hc : formC c = true) (h : linE c w = 0) : formC (linA c w) = true := by
  simp only [formC, Bool.and_eq_true, decide_eq_true_eq] at hc
  obtain ⟨c1, c2, c3, c4, c5, c6, c7, c8, c9⟩ := hc
  unfold linE at h
  unfold linA
  split at h
  · rename_i e
    rw [if_pos e]
    unfold totE at h
    split at h; · cases h
    split at h; · cases h
    rename_i h1
    simp only [formC, Bool.and_eq_true, decide_eq_true_eq]
    refine ⟨?_, c2, c3, c4, c5, c6, c7, c8, c9⟩
    have := (num_in (by simpa using h1)).1
    simp only [inB, Bool.and_eq_true, decide_eq_true_eq] at this ⊢
    omega
  split at h
  · rename_i e0 e
    rw [if_neg e0, if_pos e]
    unfold perE at h
    split at h; · cases h
    split at h; · cases h
    rename_i h1
    simp only [formC, Bool.and_eq_true, decide_eq_true_eq]
    refine ⟨c1, ?_, c3, c4, c5, c6, c7, c8, c9⟩
    have := (num_in (by simpa using h1)).1
    simp only [inB, Bool.and_eq_true, decide_eq_true_eq] at this ⊢
    omega
  split at h
  · rename_i e0 e1 e
    rw [if_neg e0, if_neg e1, if_pos e]
    unfold seaE at h
    split at h; · cases h
    split at h; · cases h
    rename_i h1
    simp only [Bool.not_eq_false, Bool.and_eq_true] at h1
    have g1 := (num_in h1.1).1
    have g2 := (num_in h1.2).1
    simp only [inB, Bool.and_eq_true, decide_eq_true_eq] at g1 g2
    simp only [formC, Bool.and_eq_true, decide_eq_true_eq]
    refine ⟨c1, c2, ?_, ?_, ?_, c6, c7, c8, c9⟩
    · simp only [inB, Bool.and_eq_true, decide_eq_true_eq]; omega
    · simp only [inB, Bool.and_eq_true, decide_eq_true_eq]; omega
    · constructor <;> intro <;> omega
  split at h
  · rename_i e0 e1 e2 e
    rw [if_neg e0, if_neg e1, if_neg e2, if_pos e]
    obtain ⟨g1, g2, g3⟩ := lev_ok h
    simp only [formC, Bool.and_eq_true, decide_eq_true_eq]
    refine ⟨c1, c2, c3, c4, c5, by simp; omega, c7, ?_, c9⟩
    rw [allL_snoc, c8, g1, g2]
    rfl
  split at h
  · rename_i e0 e1 e2 e3 e
    rw [if_neg e0, if_neg e1, if_neg e2, if_neg e3, if_pos e]
    obtain ⟨g1, g2, g3⟩ := sch_ok h
    simp only [formC, Bool.and_eq_true, decide_eq_true_eq]
    refine ⟨c1, c2, c3, c4, c5, c6, by simp; omega, c8, ?_⟩
    rw [allM_snoc, c9, g1, g2]
    rfl
  split at h
  · rename_i e0 e1 e2 e3 e4 e
    rw [if_neg e0, if_neg e1, if_neg e2, if_neg e3, if_neg e4]
    unfold rulE at h
    split at h; · cases h
    rename_i h0
    split at h; · cases h
    rename_i h1
    split at h; · cases h
    rename_i h2
    have hne : c.ss ≠ [] := fun e => h0 (.inr e)
    have hs := last_split hne
    simp only [formC, Bool.and_eq_true, decide_eq_true_eq]
    refine ⟨c1, c2, c3, c4, c5, c6, ?_, c8, ?_⟩
    · rw [hs] at c7
      simp only [addR, List.length_append, List.length_cons, List.length_nil] at c7 ⊢
      exact c7
    · rw [hs, allM_snoc] at c9
      simp only [Bool.and_eq_true] at c9
      obtain ⟨k1, k2, k3⟩ := c9
      rw [addR, allM_snoc, k1]
      simp only [Bool.true_and, Bool.and_eq_true]
      refine ⟨?_, k3⟩
      simp only [Bool.not_eq_false, lisB, Bool.and_eq_true] at h1
      obtain ⟨l1, l2, l3, l4, l5⟩ := h1
      have hr : rlOK (rlOf w) = true := by simp [rlOK, rlOf, (list_good l1).1, (list_good l2).1, (list_good l3).1, (list_good l4).1, (list_good l5).1]
      unfold lastR at h2
      simp only [smOK, Bool.and_eq_true, decide_eq_true_eq] at k2 ⊢
      obtain ⟨m1, m2, m3, m4, m5, m6⟩ := k2
      refine ⟨m1, m2, m3, m4, ?_, ?_⟩
      · simp only [List.length_append, List.length_cons, List.length_nil]; omega
      · rw [List.all_append, m6]; simp [hr]
  · cases h
end Go.Proofs.YtflpgbkdjelaaaaDoor

