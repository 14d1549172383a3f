/- The library of this claim and its walks, part 16, joined out of smaller texts. No statement stands in it. -/
import Derived.Test.YtialapjchamkfaaDoorUaM15
import Derived.Handed
import Derived.HandedShaped
import Derived.Lib.LaidTab
import Derived.Shelf.Vars
/- What the cards of this chapter want. -/
namespace Go.Proofs.YtialapjchamkfaaDoor
open Go Go.Proofs Go.Ua
set_option linter.unusedVariables false

def db64 : List Int := [0, 1, 56, 2, 57, 49, 28, 3, 61, 58, 42, 50, 38, 29, 17, 4, 62, 47, 59, 36, 45, 43, 51, 22, 53, 39, 33, 30, 24, 18, 12, 5, 63, 55, 48, 27, 60, 41, 37, 16, 46, 35, 44, 21, 52, 32, 23, 11, 54, 26, 40, 15, 34, 20, 31, 10, 25, 14, 19, 9, 13, 8, 7, 6]
def db64Cs : List Value := db64.map fun z => Value.int .u8 z

theorem block_of_cell {w : World} {g : Nat} {m : Int} (h : w.cell? ⟨g, 0, none⟩ = some (.int .i64 m)) : ∃ (cs : List Value) (t : TypeId) (fz : Nat × Nat), (∃ m, cs[0]? = some (Value.int .i64 m)) ∧ w.heap[g]? = some (.cells cs.toArray t fz) := by
  unfold World.cell? at h
  split at h
  · rename_i cs t fz hb
    exact ⟨cs.toList, t, fz, ⟨m, by simpa using h⟩, by simpa using hb⟩
  · cases h

theorem ret_and_shaped {H : Type} {enc : TypeId × Value → H} {a : Assume} {C : Checked} {os : Os} {f : FuncId} {fn : Func} {s : ChangeSpec} {conds : List PathCond} {apart fresh handsOn again : Bool} {X : World → Array Value → Prop}
    (hX : ∀ (w w' : World) (args : Array Value), w.heap = w'.heap → X w args → X w' args)
    (own : ownKnob C.prog.godebug = none) (started : os.Started) (noInit : C.prog.inits.idxOf? f = none) (hfn : C.prog.funcs[f]? = some fn)
    (witness : ∃ (w : World) (tape : Tape) (i : Input), w.os = os ∧ (w.forCall tape i).Shaped C.prog ∧ i.vars = [] ∧ Input.okWide C.prog (w.forCall tape i) .any w.heap.size f i ∧
      ((s.pre enc C.prog fn conds apart (w.forCall tape i).memory i.args ∧ X (w.forCall tape i).memory i.args) ∧ sizedMet enc C.prog fn (OpenSpec.ofChange s) apart (w.forCall tape i).memory i.args) ∧ a.holds C.prog (lone (Frame.enter C.prog f i.args .normal) [] (w.forCall tape i)))
    (contract : ∀ (W : World) (base : Nat) (args : Array Value) (ds gs : List (DataW H)) (before : List MemPlace),
      (∀ (j : Nat) t v, fn.params[j]? = some t → args[j]? = some v → Value.okWide C.prog W .any base t v) →
      DataW.Whole enc C.prog fn.params.toList s.vars apart W args.toList ds gs before →
      (DataW.weightsEach C.prog (fn.params.toList ++ s.plain.varTypes C.prog) (ds ++ gs)).all (· ≤ reachBytes) = true → X W args → W.ShapedOpen C.prog →
      Calls C.prog f args W fun e W' => ∃ v, e = .returned v ∧ s.post enc C.prog fn apart fresh handsOn again W args v W') :
    ReturnsInHanded a C os f .any (fun w args => (s.pre enc C.prog fn conds apart w args ∧ X w args) ∧ sizedMet enc C.prog fn (OpenSpec.ofChange s) apart w args) (s.post enc C.prog fn apart fresh handsOn again) := by
  refine returnsInHanded_of_calls own started noInit witness ?_
  intro w tape i _ hsh _ hok hpre _
  obtain ⟨_, _, _, g, hg, _, _, _, _, hval⟩ := hok
  obtain rfl : g = fn := Option.some.inj (hg.symm.trans hfn)
  obtain ⟨⟨⟨ds, gs, before, hw, _⟩, hx⟩, hz⟩ := hpre
  refine (contract (w.forCall tape i) w.heap.size i.args ds gs before hval (DataW.Whole.of_heap (w' := w.forCall tape i) (by rfl) hw) (hz.weights hw) (hX _ _ _ (by rfl) hx) hsh).mono ?_
  rintro e W' ⟨v, he, hp⟩
  subst he
  exact ChangeSpec.post_blind hp
end Go.Proofs.YtialapjchamkfaaDoor

/- Names are words, words are lists: plain laws. -/
namespace Go.Proofs.YtialapjchamkfaaDoor
open Go Go.Proofs Go.Ua Go.Extern
set_option linter.unusedVariables false
set_option linter.unusedSimpArgs false

theorem cutF_none {c : UInt8} : ∀ {s : List UInt8}, c ∉ s → cutF c s = [s]
  | [], _ => rfl
  | b :: r, h => by
    have h1 : b ≠ c := fun e => h (by rw [e]; simp)
    have h2 := cutF_none (s := r) (fun hm => h (List.mem_cons_of_mem _ hm))
    unfold cutF
    rw [if_neg h1, h2]

theorem mem_cut {c d : UInt8} (hd : d ≠ c) : ∀ {s : List UInt8}, d ∈ s → ∃ p, p ∈ cutF c s ∧ d ∈ p
  | b :: r, h => by
    unfold cutF
    by_cases e : b = c
    · rw [if_pos e]
      rcases List.mem_cons.1 h with h | h
      · exact absurd (h.trans e) hd
      · obtain ⟨p, hp, hm⟩ := mem_cut hd h
        exact ⟨p, List.mem_cons_of_mem _ hp, hm⟩
    · rw [if_neg e]
      cases hr : cutF c r with
      | nil => exact absurd hr (cutF_ne c r)
      | cons q qs =>
        rcases List.mem_cons.1 h with h | h
        · exact ⟨b :: q, by simp, by rw [h]; simp⟩
        · obtain ⟨p, hp, hm⟩ := mem_cut hd h
          rw [hr] at hp
          rcases List.mem_cons.1 hp with rfl | hp
          · exact ⟨b :: p, by simp, List.mem_cons_of_mem _ hm⟩
          · exact ⟨p, List.mem_cons_of_mem _ hp, hm⟩

theorem word_parts {w : List UInt8} (h : wordF w = true) : w ≠ [] ∧ w.length ≤ 64 ∧ w ≠ [45] ∧ w.all wordB = true := by
  unfold wordF at h
  simp only [Bool.and_eq_true, Bool.not_eq_true', decide_eq_true_eq, beq_eq_false_iff_ne] at h
  exact ⟨h.1.1.1, h.1.1.2, h.1.2, h.2⟩
theorem wordF_of {w : List UInt8} (h1 : w ≠ []) (h2 : w.length ≤ 64) (h3 : w ≠ [45]) (h4 : w.all wordB = true) : wordF w = true := by
  unfold wordF
  simp only [Bool.and_eq_true, Bool.not_eq_true', decide_eq_true_eq, beq_eq_false_iff_ne]
  exact ⟨⟨⟨h1, h2⟩, h3⟩, h4⟩

theorem word_of_name {w : List UInt8} (h : nameF w = true) : wordF w = true := by
  cases w with
  | nil => cases h
  | cons c r =>
    simp only [nameF, Bool.and_eq_true, decide_eq_true_eq] at h
    obtain ⟨⟨h1, h2⟩, h3⟩ := h
    refine wordF_of (by simp) (by omega) ?_ ?_
    · intro e
      cases e
      revert h2
      decide
    · rw [List.all_eq_true] at h3 ⊢
      intro x hx
      have := h3 x hx
      unfold nameB at this
      unfold wordB
      rcases Bool.or_eq_true _ _ ▸ this with h | h
      · rw [h]; rfl
      · have e : x = 45 := UInt8.toNat_inj.1 (by have := eq_of_beq h; simp; omega)
        rw [e]; decide

theorem wordB_no {c : UInt8} (h : c = 44 ∨ c = 32 ∨ c = 10) : wordB c = false := by
  rcases h with rfl | rfl | rfl <;> decide
theorem wordF_no {w : List UInt8} {c : UInt8} (hc : c ∈ w) (h : c = 44 ∨ c = 32 ∨ c = 10) : wordF w = false := by
  cases hw : wordF w
  · rfl
  · have := List.all_eq_true.1 (word_parts hw).2.2.2 c hc
    rw [wordB_no h] at this
    cases this

theorem list_of_word {w : List UInt8} (h : wordF w = true) : listF w = some [w] := by
  have hp := word_parts h
  have hc : (44 : UInt8) ∉ w := fun hm => by have := wordF_no hm (.inl rfl); rw [h] at this; cases this
  unfold listF
  rw [if_neg hp.2.2.1, if_neg (by omega), cutF_none hc]
  have : goodF [w] = true := by
    unfold goodF
    rw [Bool.or_eq_true]
    exact .inr (by simp [h])
  rw [if_pos this]

theorem list_no {w : List UInt8} {c : UInt8} (hc : c ∈ w) (h : c = 32 ∨ c = 10) : listF w = none := by
  have hne : c ≠ 44 := by rcases h with rfl | rfl <;> decide
  unfold listF
  have h1 : w ≠ [45] := by
    rintro rfl
    rcases h with rfl | rfl <;> simp at hc
  rw [if_neg h1]
  split
  · rfl
  · rw [if_neg]
    intro hg
    obtain ⟨p, hp, hm⟩ := mem_cut hne hc
    unfold goodF at hg
    rcases (Bool.or_eq_true _ _).mp hg with h2 | h2
    · have := eq_of_beq h2
      rw [this] at hp
      obtain rfl := List.mem_singleton.1 hp
      rcases h with rfl | rfl <;> simp at hm
    · simp only [Bool.and_eq_true] at h2
      have h3 := List.all_eq_true.1 h2.1.1 p hp
      rw [wordF_no hm (.inr h)] at h3
      cases h3
end Go.Proofs.YtialapjchamkfaaDoor

/- WordsNames: the function returns true. -/
namespace Go.Proofs.YtialapjchamkfaaDoor
open Go Go.Proofs Go.Ua Go.Extern
set_option linter.unusedVariables false
set_option linter.unusedSimpArgs false

/-- Neither a blank nor a newline. -/
def okB (c : UInt8) : Bool := !((c.toNat : Int) == 32) && !((c.toNat : Int) == 10)
theorem okB_no {w : List UInt8} (h : w.all okB = false) : ∃ c, c ∈ w ∧ (c = 32 ∨ c = 10) := by
  rw [List.all_eq_false] at h
  obtain ⟨c, hc, h⟩ := h
  refine ⟨c, hc, ?_⟩
  unfold okB at h
  by_cases h1 : (c.toNat : Int) = 32
  · exact .inl (UInt8.toNat_inj.1 (by simp; omega))
  · by_cases h2 : (c.toNat : Int) = 10
    · exact .inr (UInt8.toNat_inj.1 (by simp; omega))
    · exact absurd (by simp [h1, h2]) h

theorem WordsNames_spec (w : List UInt8) : ESpec Tryd.prog 5 [.d (.s (.str w))] (fun x => x = .d (.s (.bool true))) := by
  have sl := List_spec w
  have sn := Name_spec w
  have sw := Word_spec w
  obtain ⟨es, ok, he, h1, h2⟩ : ∃ (es : List Dat) (ok : Bool), listAV (listF w) = .tup [.d (.view 1 es), .d (.s (.bool ok))] ∧ (wordF w = true → ok = true ∧ es = [.s (.str w)]) ∧ (listF w = none → ok = false) := by
    cases hl : listF w with
    | none => exact ⟨[], false, rfl, (fun h => by rw [list_of_word h] at hl; exact absurd hl (by simp)), fun _ => rfl⟩
    | some l => exact ⟨strDs l, true, rfl, (fun h => ⟨rfl, by rw [list_of_word h] at hl; obtain rfl := Option.some.inj hl; rfl⟩), fun h => absurd h (by simp)⟩
  rw [he] at sl
  have hA : w.all okB = false → ok = false ∧ wordF w = false ∧ nameF w = false := fun h => by
    obtain ⟨c, hc, hcc⟩ := okB_no h
    have hw := wordF_no hc (.inr hcc)
    refine ⟨h2 (list_no hc hcc), hw, ?_⟩
    cases hn : nameF w
    · rfl
    · rw [word_of_name hn] at hw; cases hw
  have hN : nameF w = true → wordF w = true := word_of_name
  clear he h2
  obtain ⟨wd, hwd⟩ : ∃ z, z = wordF w := ⟨_, rfl⟩
  obtain ⟨nm, hnm⟩ : ∃ z, z = nameF w := ⟨_, rfl⟩
  rw [← hwd] at sw h1 hA hN
  rw [← hnm] at sn hA hN
  clear hwd hnm
  refine ESpec.enter Tryd.func5 (by kernel_rfl) rfl (Nat.le_of_ble_eq_true rfl) fun hok cx hnt hfr => ?_
  have hwl : w.length ≤ maxLen := hok.1
  have hm : maxLen = 9223372036854775807 := by decide
  obtain ⟨F, hF⟩ := real_ex
  refine AK.run hF tabOK hnt ?_
  conv => arg 4; cbv
  refine AKp.call hF tabOK hnt awake_spec rfl rfl rfl rfl rfl rfl rfl (by repeat' first | exact .refl _ | constructor) ?_
  rintro _ rfl
  conv => arg 4; cbv
  rw [l_not1 hF]
  conv => arg 4; cbv
  cases hb0 : F .ltI 16384 (F .lenS w)
  case' true =>
    conv => arg 4; cbv
    exact AKp.doneE tabOK hfr (by rfl) (by rfl)
  case' false =>
  conv => arg 4; cbv
  refine AKp.call hF tabOK hnt sl rfl rfl rfl rfl rfl rfl rfl (by repeat' first | exact .refl _ | constructor) ?_
  rintro _ rfl
  conv => arg 4; cbv
  refine AKp.call hF tabOK hnt sn rfl rfl rfl rfl rfl rfl rfl (by repeat' first | exact .refl _ | constructor) ?_
  rintro _ rfl
  conv => arg 4; cbv
  cases wd
  case' false =>
    cases nm
    case' true => exact absurd (hN rfl) (by decide)
    case' false =>
      conv => arg 4; cbv
      refine AKp.call hF tabOK hnt sw rfl rfl rfl rfl rfl rfl rfl (by repeat' first | exact .refl _ | constructor) ?_
      rintro _ rfl
      conv => arg 4; cbv
  case' true =>
    obtain ⟨rfl, rfl⟩ := h1 rfl
    cases nm
    case' true =>
      conv => arg 4; cbv
      refine AKp.call hF tabOK hnt sw rfl rfl rfl rfl rfl rfl rfl (by repeat' first | exact .refl _ | constructor) ?_
      rintro _ rfl
      conv => arg 4; cbv
      rw [l_not1 hF]
    all_goals
      conv => arg 4; cbv
      refine AKp.call hF tabOK hnt sw rfl rfl rfl rfl rfl rfl rfl (by repeat' first | exact .refl _ | constructor) ?_
      rintro _ rfl
      conv => arg 4; cbv
      rw [l_not1 hF]
      conv => arg 4; cbv
      rw [show F .eqI (F .lenD [.s (.str w)]) 1 = true by rw [hF]; rfl, l_not1 hF]
      conv => arg 4; cbv
      rw [show F .getD [.s (.str w)] 0 = some (.s (.str w)) from l_getD hF (i := 0) rfl rfl]
      conv => arg 4; cbv
      rw [show F .eqS w w = true by rw [l_eqS hF]; simp, l_not1 hF]
  all_goals
    conv => arg 4; cbv
    refine AKp.enterLoop 5 ?_
    conv => arg 7; cbv
    refine AKl.inv hF tabOK hnt hfr (fun n vs hs => ∃ (i : Nat) (iv : Int) (pb : Bool), i + n = w.length ∧ iv = i ∧ pb = (w.take i).all okB ∧ vs = [(6, .d (.s (.int .i64 iv))), (5, .d (.s (.bool pb)))] ∧ hs = []) w.length
      ⟨0, _, true, by omega, rfl, by simp, rfl, rfl⟩ (by repeat (first | exact True.intro | refine ⟨⟨rfl, rfl⟩, ?_⟩)) (by repeat (first | exact True.intro | refine ⟨⟨rfl, rfl, rfl⟩, ?_⟩)) ?_
    rintro J n vs hs hJ ⟨i, iv, pb, hi, hiv, hpb, rfl, rfl⟩
    conv => arg 4; cbv
    cases hb : F .ltI iv (F .lenS w)
    case' false =>
      have hlt := ltI0 hF hb
      rw [l_lenS hF] at hlt
      rw [List.take_of_length_le (by omega)] at hpb
      rw [← hpb] at hA
      conv => arg 4; cbv
      cases pb
      case' true =>
        conv => arg 4; cbv
        exact AKp.doneE tabOK hfr (by rfl) (by rfl)
      case' false =>
        first
          | exact absurd (hA rfl).2.1 (by decide)
          | (obtain ⟨rfl, _, _⟩ := hA rfl
             conv => arg 4; cbv
             rw [l_not0 hF]
             conv => arg 4; cbv
             refine AKp.call hF tabOK hnt sw rfl rfl rfl rfl rfl rfl rfl (by repeat' first | exact .refl _ | constructor) ?_
             rintro _ rfl
             conv => arg 4; cbv
             rw [l_not0 hF]
             conv => arg 4; cbv
             refine AKp.call hF tabOK hnt sn rfl rfl rfl rfl rfl rfl rfl (by repeat' first | exact .refl _ | constructor) ?_
             rintro _ rfl
             conv => arg 4; cbv
             rw [l_not0 hF]
             conv => arg 4; cbv
             exact AKp.doneE tabOK hfr (by rfl) (by rfl))
    case' true =>
      have hlt := ltI1 hF hb
      rw [l_lenS hF] at hlt
      have hil : i < w.length := by omega
      obtain ⟨c, hc⟩ : ∃ c, w[i]? = some c := ⟨_, List.getElem?_eq_getElem hil⟩
      have hg := l_getS hF hc hiv
      have htk : (w.take (i + 1)).all okB = (pb && okB c) := by rw [List.take_add_one, hc, hpb]; simp
      rw [show okB c = (!((c.toNat : Int) == 32) && !((c.toNat : Int) == 10)) from rfl] at htk
      obtain ⟨cv, hcv⟩ : ∃ z : Int, z = c.toNat := ⟨_, rfl⟩
      rw [← hcv] at hg htk
      have fin : ∀ q : Bool, q = (w.take (i + 1)).all okB → ∃ (i' : Nat) (iv' : Int) (pb' : Bool), i' + (n - 1) = w.length ∧ iv' = i' ∧ pb' = (w.take i').all okB ∧ [(6, AV.d (.s (.int .i64 (F .wrap .i64 (F .add iv 1))))), (5, .d (.s (.bool q)))] = [(6, AV.d (.s (.int .i64 iv'))), (5, .d (.s (.bool pb')))] ∧ ([] : List (Nat × Blk)) = [] :=
        fun q hq => ⟨i + 1, _, q, by omega, inc_i hF hiv (by omega), hq, rfl, rfl⟩
      conv => arg 4; cbv
      cases pb
      case' false =>
        conv => arg 4; cbv
        exact AKp.again _ hfr (by repeat (first | exact True.intro | refine ⟨⟨rfl, rfl⟩, ?_⟩)) (by repeat (first | exact True.intro | refine ⟨⟨rfl, rfl, rfl⟩, ?_⟩)) (hJ (n - 1) _ _ (by omega) (fin false (by rw [htk]; rfl)))
      case' true =>
        conv => arg 4; cbv
        rw [hg]
        conv => arg 4; cbv
        cases h5 : F .eqI cv 32
        case' true =>
          rw [l_not1 hF]
          conv => arg 4; cbv
          exact AKp.again _ hfr (by repeat (first | exact True.intro | refine ⟨⟨rfl, rfl⟩, ?_⟩)) (by repeat (first | exact True.intro | refine ⟨⟨rfl, rfl, rfl⟩, ?_⟩)) (hJ (n - 1) _ _ (by omega) (fin false (by rw [htk, eqI1 hF h5]; rfl)))
        case' false =>
          rw [l_not0 hF]
          conv => arg 4; cbv
          rw [hg]
          conv => arg 4; cbv
          exact AKp.again _ hfr (by repeat (first | exact True.intro | refine ⟨⟨rfl, rfl⟩, ?_⟩)) (by repeat (first | exact True.intro | refine ⟨⟨rfl, rfl, rfl⟩, ?_⟩)) (hJ (n - 1) _ _ (by omega) (fin (F .not (F .eqI cv 10)) (by
            have e5 := eqI0 hF h5
            rw [htk, l_not hF, l_eqI hF]
            simp [e5])))
theorem typed_str {f : Nat} {l : List Dat} (h : typed tab (f + 1) 9 l) : ∃ s, l = [.s (.str s)] := by
  obtain ⟨s, rfl, _⟩ := h
  exact ⟨s, rfl⟩
end Go.Proofs.YtialapjchamkfaaDoor

/- Code evaluated into a tree of its paths: conditions, needs, where each path stops. A library of this claim's own: no statement stands in it. -/
namespace Go.Ua
open Go Go.Proofs
set_option linter.unusedVariables false
set_option linter.unusedSimpArgs false
set_option linter.unusedSectionVars false

/-- What is told of calls: by function, of arguments: what they must meet, what comes back. -/
abbrev Tbl := List (Nat × (List AV → Option (Bool × AV)))

def SpOK (P : Program) [Globs P] (g : FuncId) (φ : List AV → Option (Bool × AV)) : Prop := ∀ xs b x, φ xs = some (b, x) → b = true → ESpec P g xs (fun y => y = x)

def TblOK (P : Program) [Globs P] : Tbl → Prop
  | [] => True
  | p :: r => SpOK P p.1 p.2 ∧ TblOK P r

theorem TblOK.get {P : Program} [Globs P] {g : Nat} {φ : List AV → Option (Bool × AV)} : ∀ {G : Tbl}, TblOK P G → look g G = some φ → SpOK P g φ
  | [], _, h => by simp [look] at h
  | p :: r, H, h => by
    rw [look_cons] at h
    split at h
    · rename_i e
      obtain rfl := Option.some.inj h
      subst e
      exact H.1
    · exact H.2.get h

inductive Tree where
  | node (b : Bool) (t f : Tree)
  | need (b : Bool) (t : Tree)
  | leaf (k : List KI) (S : St)

/-- What a slice's elements are made of. -/
def shFold (f : TypeId → Option (List SK)) : List (Nat × TypeId) → Option (List SK)
  | [] => some []
  | p :: r => (match f p.2, shFold f r with
    | some a, some b => some (a ++ b)
    | _, _ => none)

def shapeOf (τ : Tab) : Nat → TypeId → Option (List SK)
  | 0, _ => none
  | n + 1, t => (match kindOf τ t with
    | .string => some [.str]
    | .bool => some [.bool]
    | .int k => some [.int k]
    | .slice e => some [.view (sizeAt τ e)]
    | .struct fs => shFold (shapeOf τ n) fs
    | _ => none)

def cellF (F : Fam) (es : List Dat) (n : Int) (j : Nat) : SK → Dat
  | .str => .s (.str (F .strA es n j))
  | .bool => .s (.bool (F .boolA es n j))
  | .int k => .s (.int k (F .intA es n j))
  | .view k => .view k (F .viewA es n j)

def cellsF (F : Fam) (es : List Dat) (n : Int) : Nat → List SK → List Dat
  | _, [] => []
  | j, s :: r => cellF F es n j s :: cellsF F es n (j + 1) r

def litX (dc : List Nat) : Operand → Bool
  | .tmp s => memN s dc
  | .const (.bool _) => true
  | _ => false

/-- Operations whose answer wants something of the data. -/
def opT (F : Fam) (τ : Tab) (dc : List Nat) (S : St) : Op → Option (Bool × AV)
  | .index t x i => (match kindOf τ t, evl S x, evl S i with
    | .string, .d (.s (.str l)), .d (.s (.int _ n)) => some (F .hasS l n, .d (.s (.int .u8 (F .atS l n))))
    | _, _, _ => none)
  | .slice t x lo hi none => (match kindOf τ t, evl S x with
    | .string, .d (.s (.str l)) => (match bnd (omap S lo) 0, bnd (omap S hi) (F .lenS l) with
      | some i, some j => some (F .hasC l i j, .d (.s (.str (F .subS l i j))))
      | _, _ => none)
    | .slice e, .d (.view k es) => (match sizeAt τ e with
      | 0 => none
      | s + 1 => (match Nat.beq k (s + 1), bnd (omap S lo) 0, bnd (omap S hi) (F .lenD es) with
        | true, some i, some j => some (F .hasV es i j, .d (.view k (F .subV es i j)))
        | _, _, _ => none))
    | _, _ => none)
  | .binOp .add _ x y _ => (match evl S x, evl S y with
    | .d (.s (.str a)), .d (.s (.str b)) => some (F .hasCat a b, .d (.s (.str (F .app a b))))
    | _, _ => none)
  | .indexAddr t x i => (match kindOf τ t, evl S x, evl S i with
    | .slice e, .d (.view k es), .d (.s (.int _ n)) => (match sizeAt τ e, shapeOf τ 6 e with
      | s + 1, some sk => (match Nat.beq k (s + 1) with
        | true => some (F .hasD es n sk, .d (.vref (cellsF F es n 0 sk)))
        | false => none)
      | _, _ => none)
    | _, _, _ => none)
  | .convert s d x => (match kindOf τ s, kindOf τ d, evl S x with
    | .slice e, .string, .d (.view k es) => (match kindOf τ e, Nat.beq k 1 with
      | .int .u8, true => some (F .hasStr es, .d (.s (.str (F .ofStr es))))
      | _, _ => none)
    | _, _, _ => none)
  | .unOp .not _ x => (match litX dc x, evl S x with
    | true, .d (.s (.bool b)) => (match b with
      | true => some (true, .d (.s (.bool false)))
      | false => some (true, .d (.s (.bool true))))
    | _, _ => none)
  | _ => none

theorem sks_cells (es : List Dat) (n : Int) (d : Dat) (h : es.getD n.toNat (.agg []) = d) : ∀ (sk : List SK) (j : Nat) (cs : List Dat), d.cells.drop j = cs → sksOK sk cs = true → cs = cellsF Fam.real es n j sk
  | [], j, [], _, _ => rfl
  | [], j, c :: cs, _, h2 => by simp [sksOK] at h2
  | s :: sk, j, [], _, h2 => by simp [sksOK] at h2
  | s :: sk, j, c :: cs, h1, h2 => by
    simp only [sksOK, Bool.and_eq_true] at h2
    have hj : d.cells[j]? = some c := by
      have := congrArg (·[0]?) h1
      simpa using this
    have hg : ((es.getD n.toNat (.agg [])).cells).getD j (.agg []) = c := by rw [h, List.getD_eq_getElem?_getD, hj]; rfl
    have ht : d.cells.drop (j + 1) = cs := by
      have := congrArg List.tail h1
      simpa using this
    have ih := sks_cells es n d h sk (j + 1) cs ht h2.2
    have hc : c = cellF Fam.real es n j s := by
      have h3 := h2.1
      unfold skOK at h3
      split at h3
      · show _ = Dat.s (.str (match ((es.getD n.toNat (.agg [])).cells).getD j (.agg []) with | .s (.str s) => s | _ => []))
        rw [hg]
      · show _ = Dat.s (.bool (match ((es.getD n.toNat (.agg [])).cells).getD j (.agg []) with | .s (.bool s) => s | _ => false))
        rw [hg]
      · rename_i k k' m
        obtain rfl := of_decide_eq_true h3
        show _ = Dat.s (.int k (match ((es.getD n.toNat (.agg [])).cells).getD j (.agg []) with | .s (.int _ s) => s | _ => 0))
        rw [hg]
      · rename_i k k' m
        obtain rfl := Nat.eq_of_beq_eq_true h3
        show _ = Dat.view k (match ((es.getD n.toNat (.agg [])).cells).getD j (.agg []) with | .view _ s => s | _ => [])
        rw [hg]
      · cases h3
    rw [cellsF, ← hc, ← ih]

theorem hasD_some {es : List Dat} {n : Int} {sk : List SK} (h : Fam.real .hasD es n sk = true) : ∃ d, Ar.real.getD es n = some d ∧ d.cells = cellsF Fam.real es n 0 sk := by
  have h : (match getI es n with | some d => sksOK sk d.cells | none => false) = true := h
  split at h
  · rename_i d hd
    refine ⟨d, hd, ?_⟩
    obtain ⟨_, _, h3⟩ := getI_some hd
    exact sks_cells es n d (by rw [List.getD_eq_getElem?_getD, h3]; rfl) sk 0 d.cells (by simp) h
  · cases h

theorem opT_pure {τ : Tab} {dc : List Nat} {S : St} {op : Op} {b : Bool} {z : AV} (h : opT Fam.real τ dc S op = some (b, z)) (hb : b = true) : pureOp Ar.real τ S op = some z := by
  unfold opT at h
  split at h
  · rename_i t x i
    split at h
    · rename_i l k n hk hx hi
      simp only [Option.some.injEq, Prod.mk.injEq] at h
      obtain ⟨rfl, rfl⟩ := h
      have hb : (decide (0 ≤ n) && decide (n < (l.length : Int))) = true := hb
      simp only [Bool.and_eq_true, decide_eq_true_eq] at hb
      simp only [pureOp, indexAV, hk, hx, hi]
      have : Ar.real.getS l n = some (Fam.real .atS l n) := by
        show (getI l n).map (fun b => (b.toNat : Int)) = some (((l.getD n.toNat 0).toNat : Nat) : Int)
        unfold getI
        rw [if_pos hb.1, List.getElem?_eq_getElem (by omega), List.getD_eq_getElem?_getD, List.getElem?_eq_getElem (by omega)]
        rfl
      rw [this]
    · cases h
  · rename_i t x lo hi
    split at h
    · rename_i l hk hx
      split at h
      · rename_i i j hlo hhi
        simp only [Option.some.injEq, Prod.mk.injEq] at h
        obtain ⟨rfl, rfl⟩ := h
        have hb : (decide (0 ≤ i) && (decide (i ≤ j) && decide (j ≤ (l.length : Int)))) = true := hb
        simp only [Bool.and_eq_true, decide_eq_true_eq] at hb
        simp only [pureOp, hx, sliceAV, hk, show omap S none = none from rfl]
        have e1 : bnd (omap S hi) (Ar.real.lenS l) = some j := hhi
        rw [hlo, e1]
        have : Ar.real.cutS l i j = some (Fam.real .subS l i j) := by
          show cutI l i j = _
          unfold cutI
          rw [if_pos ⟨hb.1, hb.2.1, hb.2.2⟩]
          rfl
        simp only [this]
      · cases h
    · rename_i e k es hk hx
      split at h
      · cases h
      · rename_i s hs
        split at h
        · rename_i i j hks hlo hhi
          simp only [Option.some.injEq, Prod.mk.injEq] at h
          obtain ⟨rfl, rfl⟩ := h
          have hb : (decide (0 ≤ i) && (decide (i ≤ j) && decide (j ≤ (es.length : Int)))) = true := hb
          simp only [Bool.and_eq_true, decide_eq_true_eq] at hb
          simp only [pureOp, hx, sliceAV, hk, show omap S none = none from rfl, hs]
          have e1 : bnd (omap S hi) (Ar.real.lenD es) = some j := hhi
          rw [if_pos (Nat.eq_of_beq_eq_true hks), hlo, e1]
          have : Ar.real.cutD es i j = some (Fam.real .subV es i j) := by
            show cutI es i j = _
            unfold cutI
            rw [if_pos ⟨hb.1, hb.2.1, hb.2.2⟩]
            rfl
          simp only [this]
        · cases h
    · cases h
  · rename_i t x y ty
    split at h
    · rename_i a c hx hy
      simp only [Option.some.injEq, Prod.mk.injEq] at h
      obtain ⟨rfl, rfl⟩ := h
      have hb : decide (a.length + c.length ≤ 9223372036854775807) = true := hb
      simp only [decide_eq_true_eq] at hb
      have : Ar.real.cat a c = some (Fam.real .app a c) := by
        show (if ((a.length + c.length : Nat) : Int) > IntKind.i64.max then none else some (a ++ c)) = _
        have hm : IntKind.i64.max = 9223372036854775807 := by decide
        rw [if_neg (by rw [hm]; omega)]
        rfl
      simp only [pureOp, hx, hy, binAV, binSc, this]
    · cases h
  · rename_i t x i
    split at h
    · rename_i e k es k2 n hk hx hi
      split at h
      · rename_i s sk hs hsk
        split at h
        · rename_i hks
          simp only [Option.some.injEq, Prod.mk.injEq] at h
          obtain ⟨rfl, rfl⟩ := h
          obtain ⟨d, hd, hc⟩ := hasD_some hb
          simp only [pureOp, hx, hk, hs, indexAddrAV, hi]
          rw [if_pos (Nat.eq_of_beq_eq_true hks)]
          simp only [hd, hc]
        · cases h
      · cases h
    · cases h
  · rename_i s d x
    split at h
    · rename_i e k es hs hd hx
      split at h
      · rename_i he hk1
        simp only [Option.some.injEq, Prod.mk.injEq] at h
        obtain ⟨rfl, rfl⟩ := h
        have hb : (strOf es).isSome = true := hb
        simp only [pureOp, hx, strAV, hs, hd, he, hk1]
        obtain ⟨l, hl⟩ := Option.isSome_iff_exists.1 hb
        have e1 : Ar.real.strD es = some l := hl
        have e2 : Fam.real .ofStr es = l := by show (strOf es).getD [] = l; rw [hl]; rfl
        simp only [e1, e2]
      · cases h
    · cases h
  · rename_i t x
    split at h
    · rename_i b0 hl hx
      cases b0 <;> simp only [Option.some.injEq, Prod.mk.injEq] at h <;> obtain ⟨rfl, rfl⟩ := h <;> simp only [pureOp, hx, unAV] <;> rfl
    · cases h
  · cases h

/-- Appending: that there is room is what it wants. -/
def apT (F : Fam) (S : St) (e : TypeId) (y : Ty) (es2 : List Dat) (s : AV) : Option (Bool × AV × St) := match s with
  | .row n k0 => (match look n S.h with
    | some (.ds E k1 es) => (match Nat.beq E e, Nat.beq k1 y.size, Nat.beq k0 y.size with
      | true, true, true => some (F .fits y.bytes (F .appD es es2), .row S.fr y.size, S.rep n (.ds e y.size (F .appD es es2)))
      | _, _, _ => none)
    | _ => none)
  | .d (.s .sl0) => some (F .fits y.bytes es2, .row S.fr y.size, S.new (.ds e y.size es2))
  | .nul => some (F .fits y.bytes es2, .row S.fr y.size, S.new (.ds e y.size es2))
  | _ => none

def apOp (F : Fam) (τ : Tab) (S : St) (t1 t2 : TypeId) (s x : AV) : Option (Bool × AV × St) :=
  match kindOf τ t1 with
  | .slice e => (match look e τ with
    | some y => (match okZero y && (y.size != 0 && y.bytes != 0) with
      | true => (match Nat.beq t1 t2 with
        | true => (match srcOf S x with
          | some (k, es2) => (match Nat.beq k y.size with
            | true => apT F S e y es2 s
            | false => none)
          | none => none)
        | false => (match kindOf τ t2, kindOf τ e, x, Nat.beq y.size 1 with
          | .string, .int .u8, .d (.s (.str l)), true => apT F S e y (F .bytesD l) s
          | _, _, _, _ => none))
      | false => none)
    | none => none)
  | _ => none

theorem apT_ok {S : St} {e : TypeId} {y : Ty} {es2 : List Dat} {s z : AV} {b : Bool} {S' : St} (h : apT Fam.real S e y es2 s = some (b, z, S')) (hb : b = true) : appG Ar.real S e y es2 s = some (z, S') := by
  unfold apT at h
  split at h
  · rename_i n k0
    split at h
    · rename_i E k1 es hl
      split at h
      · rename_i h1 h2 h3
        simp only [Option.some.injEq, Prod.mk.injEq] at h
        obtain ⟨rfl, rfl, rfl⟩ := h
        simp only [appG, hl]
        rw [if_pos ⟨Nat.eq_of_beq_eq_true h1, Nat.eq_of_beq_eq_true h2, Nat.eq_of_beq_eq_true h3⟩]
        have e1 : Ar.real.fits y.bytes (Ar.real.appD es es2) = true := hb
        rw [e1]
        rfl
      · cases h
    · cases h
  · simp only [Option.some.injEq, Prod.mk.injEq] at h
    obtain ⟨rfl, rfl, rfl⟩ := h
    have e1 : Ar.real.fits y.bytes es2 = true := hb
    simp only [appG, e1]
  · simp only [Option.some.injEq, Prod.mk.injEq] at h
    obtain ⟨rfl, rfl, rfl⟩ := h
    have e1 : Ar.real.fits y.bytes es2 = true := hb
    simp only [appG, e1]
  · cases h

theorem apOp_ok {τ : Tab} {S : St} {t1 t2 : TypeId} {s x z : AV} {b : Bool} {S' : St} (h : apOp Fam.real τ S t1 t2 s x = some (b, z, S')) (hb : b = true) : appendOp Ar.real τ S t1 t2 s x = some (z, S') := by
  unfold apOp at h
  unfold appendOp
  split at h
  · rename_i e hk
    rw [hk]
    simp only
    split at h
    · rename_i y hy
      rw [hy]
      simp only
      split at h
      · rename_i hz
        rw [hz]
        simp only
        split at h
        · rename_i ht
          rw [ht]
          simp only
          split at h
          · rename_i k es2 hs
            rw [hs]
            simp only
            split at h
            · rename_i hks
              rw [if_pos (Nat.eq_of_beq_eq_true hks)]
              exact apT_ok h hb
            · cases h
          · cases h
        · rename_i ht
          rw [ht]
          simp only
          split at h
          · rename_i l h1 h2 h3
            rw [h1, h2, h3]
            simp only
            exact apT_ok h hb
          · cases h
      · cases h
    · cases h
  · cases h

/-- Operations with an effect whose answer wants something. -/
def opE (F : Fam) (τ : Tab) (S : St) : Op → Option (Bool × AV × St)
  | .call c => (match c.callee, c.argTypes.toList, c.args.toList with
    | .builtin .append, [t1, t2], [s, x] => apOp F τ S t1 t2 (evl S s) (evl S x)
    | _, _, _ => none)
  | _ => none

theorem opE_ok {τ : Tab} {S : St} {op : Op} {b : Bool} {z : AV} {S' : St} (h : opE Fam.real τ S op = some (b, z, S')) (hb : b = true) : effOp Ar.real τ S op = some (z, S') ∧ pureOp Ar.real τ S op = none := by
  unfold opE at h
  split at h
  · rename_i c
    split at h
    · rename_i t1 t2 s x h1 h2 h3
      refine ⟨?_, ?_⟩
      · simp only [effOp, h1, h2, h3]
        exact apOp_ok h hb
      · simp only [pureOp, h1, h2]
        rfl
    · cases h
  · cases h

/-- What a call comes to, as told. -/
def callT (G : Tbl) (S : St) (op : Op) : Option (Bool × AV) := match op with
  | .call c => (match c.callee with
    | .value fo => (match fargs (evl S fo) with
      | some (g, fi, ca) => (match look g G with
        | some φ => (match φ (app3 fi (evls S c.args.toList) ca) with
          | some (b, x) => (match lts 0 (app3 fi (evls S c.args.toList) ca), x.lt 0 with
            | true, true => some (b, x)
            | _, _ => none)
          | none => none)
        | none => none)
      | none => none)
    | _ => none)
  | _ => none

/-- What is not decided yet. -/
def askX (dc : List Nat) (S : St) : Operand → Option (Nat × Bool)
  | .tmp d => (match memN d dc with
    | true => none
    | false => (match look d S.t with
      | some (.d (.s (.bool b))) => some (d, b)
      | _ => none))
  | _ => none

def askG (dc : List Nat) (all : List Oper) (S : St) (o : Oper) : Option (Nat × Bool) := match o.guard with
  | none => none
  | some (j, _) => (match all[j]? with
    | some oj => (match oj.dst with
      | some d => askX dc S (.tmp d)
      | none => none)
    | none => none)

def askP (dc : List Nat) (S : St) : Op → Option (Nat × Bool)
  | .pick c _ _ => askX dc S c
  | _ => none

def litO (dc : List Nat) (S : St) : Op → Bool
  | .move x => litX dc x
  | .assign x => litX dc x
  | .unOp .not _ x => litX dc x
  | .pick c x y => (match litX dc c, evl S c with
    | true, .d (.s (.bool b)) => (match b with
      | true => litX dc x
      | false => litX dc y)
    | _, _ => false)
  | _ => false

def delN (n : Nat) : List Nat → List Nat
  | [] => []
  | m :: l => (match Nat.beq m n with
    | true => delN n l
    | false => m :: delN n l)

def dcP (dc : List Nat) (d : Option Nat) (l : Bool) : List Nat := match d with
  | none => dc
  | some d => (match l with
    | true => d :: dc
    | false => delN d dc)

def setT (d : Nat) (x : AV) : List (Nat × AV) → List (Nat × AV)
  | [] => []
  | p :: r => (match Nat.beq p.1 d with
    | true => (p.1, x) :: r
    | false => p :: setT d x r)

theorem setT_id {d : Nat} {x : AV} : ∀ {t : List (Nat × AV)}, look d t = some x → setT d x t = t
  | [], h => by simp [look] at h
  | (i, y) :: r, h => by
    simp only [look] at h
    simp only [setT]
    split at h
    · rename_i e
      obtain rfl := Option.some.inj h
      rw [e]
    · rename_i e
      rw [e]
      simp only [setT_id h]

def St.lit (S : St) (d : Nat) (b : Bool) : St := ⟨setT d (.d (.s (.bool b))) S.t, S.h, S.fr⟩

theorem lit_id {S : St} {d : Nat} {b : Bool} (h : look d S.t = some (.d (.s (.bool b)))) : S.lit d b = S := by
  unfold St.lit
  rw [setT_id h]

theorem askX_look {dc : List Nat} {S : St} {x : Operand} {d : Nat} {b : Bool} (h : askX dc S x = some (d, b)) : look d S.t = some (.d (.s (.bool b))) := by
  unfold askX at h
  split at h
  · split at h
    · cases h
    · split at h
      · rename_i b' hl
        simp only [Option.some.injEq, Prod.mk.injEq] at h
        obtain ⟨rfl, rfl⟩ := h
        exact hl
      · cases h
  · cases h

theorem askG_look {dc : List Nat} {all : List Oper} {S : St} {o : Oper} {d : Nat} {b : Bool} (h : askG dc all S o = some (d, b)) : look d S.t = some (.d (.s (.bool b))) := by
  unfold askG at h
  split at h
  · cases h
  · split at h
    · split at h
      · exact askX_look h
      · cases h
    · cases h

theorem askP_look {dc : List Nat} {S : St} {op : Op} {d : Nat} {b : Bool} (h : askP dc S op = some (d, b)) : look d S.t = some (.d (.s (.bool b))) := by
  unfold askP at h
  split at h
  · exact askX_look h
  · cases h

def viewO (τ : Tab) (S : St) : Op → Option AV
  | .buildSlice t n parts => (match bsView τ t n (evps S parts.toList) with
    | some (k, _, es) => some (.d (.view k es))
    | none => none)
  | _ => none

/-- A row is looked into: it is told first that nobody writes it any more. -/
def stopR (S : St) : Op → Bool
  | .slice _ x _ _ _ => (match evl S x with
    | .row _ _ => true
    | _ => false)
  | .indexAddr _ x _ => (match evl S x with
    | .row _ _ => true
    | _ => false)
  | .convert _ _ x => (match evl S x with
    | .row _ _ => true
    | _ => false)
  | _ => false

/-- A region that draws its order: its operations in the text's order, as long as they are such that the order doesn't matter. -/
def runDT (F : Fam) (τ : Tab) (nt : Nat) (G : Tbl) (all : List Oper) (st : Tree) (K : List Oper → List Nat → St → Tree) : Nat → Nat → List Nat → List Oper → St → Tree
  | 0, _, _, _, _ => st
  | f + 1, j, dc, [], S => (match chkAny all.length all with
    | true => K [] dc S
    | false => st)
  | f + 1, j, dc, o :: r, S => (match chkTail j (o :: r) with
    | true => (match chkAny (all.length - (o :: r).length) all with
      | true => K (o :: r) dc S
      | false => st)
    | false => (match askG dc all S o with
      | some (d, b) => .node b (runDT F τ nt G all st K f j (d :: dc) (o :: r) (S.lit d true)) (runDT F τ nt G all st K f j (d :: dc) (o :: r) (S.lit d false))
      | none => (match (match o.dst with
          | some d => Nat.blt d nt
          | none => true), guardB all S o with
        | true, some true => (match askP dc S o.op with
          | some (d, b) => .node b (runDT F τ nt G all st K f j (d :: dc) (o :: r) (S.lit d true)) (runDT F τ nt G all st K f j (d :: dc) (o :: r) (S.lit d false))
          | none => (match callT G S o.op with
            | some (b, z) => .need b (runDT F τ nt G all st K f (j + 1) (dcP dc o.dst false) r (S.put o.dst z))
            | none => (match opT F τ dc S o.op with
              | some (b, z) => .need b (runDT F τ nt G all st K f (j + 1) (dcP dc o.dst (litO dc S o.op)) r (S.put o.dst z))
              | none => (match viewO τ S o.op with
                | some z => runDT F τ nt G all st K f (j + 1) (dcP dc o.dst false) r (S.put o.dst z)
                | none => (match stopR S o.op with
                  | true => st
                  | false => (match pureOp (Ar.of F) τ S o.op with
                    | some z => runDT F τ nt G all st K f (j + 1) (dcP dc o.dst (litO dc S o.op)) r (S.put o.dst z)
                    | none => st))))))
        | true, some false => runDT F τ nt G all st K f (j + 1) (dcP dc o.dst false) r (S.put o.dst (.tup []))
        | _, _ => st)))

def runT (F : Fam) (τ : Tab) (nt : Nat) (fz : Bool) (G : Tbl) : Nat → List Nat → List KI → St → Tree
  | 0, _, k, S => .leaf k S
  | f + 1, dc, k, S => (match k with
    | [] => .leaf [] S
    | .back J :: k => .leaf (.back J :: k) S
    | .blk _ :: k => runT F τ nt fz G f dc k S
    | .ops _ [] :: k => runT F τ nt fz G f dc k S
    | .ops all (o :: r) :: k => (match askG dc all S o with
      | some (d, b) => .node b (runT F τ nt fz G f (d :: dc) (.ops all (o :: r) :: k) (S.lit d true)) (runT F τ nt fz G f (d :: dc) (.ops all (o :: r) :: k) (S.lit d false))
      | none => (match (match o.dst with
          | some d => Nat.blt d nt
          | none => true), guardB all S o with
        | true, some true => (match askP dc S o.op with
          | some (d, b) => .node b (runT F τ nt fz G f (d :: dc) (.ops all (o :: r) :: k) (S.lit d true)) (runT F τ nt fz G f (d :: dc) (.ops all (o :: r) :: k) (S.lit d false))
          | none => (match callT G S o.op with
            | some (b, z) => .need b (runT F τ nt fz G f (dcP dc o.dst false) (.ops all r :: k) (S.put o.dst z))
            | none => (match opT F τ dc S o.op with
              | some (b, z) => .need b (runT F τ nt fz G f (dcP dc o.dst (litO dc S o.op)) (.ops all r :: k) (S.put o.dst z))
              | none => (match opE F τ S o.op with
                | some (b, z, S') => .need b (runT F τ nt fz G f (dcP dc o.dst false) (.ops all r :: k) (S'.put o.dst z))
                | none => (match (match fz with
                    | true => viewO τ S o.op
                    | false => none) with
                  | some z => runT F τ nt fz G f (dcP dc o.dst false) (.ops all r :: k) (S.put o.dst z)
                  | none => (match stopR S o.op with
                    | true => .leaf (.ops all (o :: r) :: k) S
                    | false => (match stepOp (Ar.of F) τ nt S o with
                      | some S' => runT F τ nt fz G f (dcP dc o.dst (litO dc S o.op)) (.ops all r :: k) S'
                      | none => .leaf (.ops all (o :: r) :: k) S)))))))
        | true, some false => runT F τ nt fz G f (dcP dc o.dst false) (.ops all r :: k) (S.put o.dst (.tup []))
        | _, _ => .leaf (.ops all (o :: r) :: k) S))
    | .code c :: k => (match c with
      | .skip => runT F τ nt fz G f dc k S
      | .seq x y => runT F τ nt fz G f dc (.code x :: .code y :: k) S
      | .block id x => runT F τ nt fz G f dc (.code x :: .blk id :: k) S
      | .exit id => (match unw id k with
        | some k' => runT F τ nt fz G f dc k' S
        | none => .leaf (.code (.exit id) :: k) S)
      | .cond c x y => (match askX dc S c with
        | some (d, b) => .node b (runT F τ nt fz G f (d :: dc) (.code x :: k) (S.lit d true)) (runT F τ nt fz G f (d :: dc) (.code y :: k) (S.lit d false))
        | none => (match evl S c with
          | .d (.s (.bool b)) => (match b with
            | true => runT F τ nt fz G f dc (.code x :: k) S
            | false => runT F τ nt fz G f dc (.code y :: k) S)
          | _ => .leaf (.code (.cond c x y) :: k) S))
      | .region id ops dr => (match dr with
        | false => runT F τ nt fz G f dc (.ops ops.toList ops.toList :: k) S
        | true => runDT F τ nt G ops.toList (.leaf (.code (.region id ops true) :: k) S) (fun rest dc S => runT F τ nt fz G f dc (.ops ops.toList rest :: k) S) 10000 0 dc ops.toList S)
      | .label _ => runT F τ nt fz G f dc k S
      | c => .leaf (.code c :: k) S))

section
variable {P : Program} [Globs P] {τ : Tab} {cx : Cx P} {Q : Exit → Act → World → Prop}

def AKm (P : Program) [Globs P] (cx : Cx P) (Q : Exit → Act → World → Prop) : Tree → Prop
  | .node b t f => (b = true → AKm P cx Q t) ∧ (b = false → AKm P cx Q f)
  | .need b t => b = true ∧ (b = true → AKm P cx Q t)
  | .leaf k S => AKp P cx Q (k, S)

inductive AKt (P : Program) [Globs P] (cx : Cx P) (Q : Exit → Act → World → Prop) : Tree → Prop where
  | node {b : Bool} {t f : Tree} (h1 : b = true → AKt P cx Q t) (h2 : b = false → AKt P cx Q f) : AKt P cx Q (.node b t f)
  | need {b : Bool} {t : Tree} (h1 : b = true) (h2 : b = true → AKt P cx Q t) : AKt P cx Q (.need b t)
  | leaf {k : List KI} {S : St} (h : AKp P cx Q (k, S)) : AKt P cx Q (.leaf k S)

theorem AKt.m {t : Tree} (h : AKt P cx Q t) : AKm P cx Q t := by
  induction h with
  | node h1 h2 i1 i2 => exact ⟨i1, i2⟩
  | need h1 h2 i2 => exact ⟨h1, i2⟩
  | leaf h => exact h

theorem AKt.have {t : Tree} (h : AKt P cx Q t) : AKt P cx Q (.need true t) := .need rfl fun _ => h
theorem AKt.tt {t f : Tree} (h : AKt P cx Q t) : AKt P cx Q (.node true t f) := .node (fun _ => h) (fun h => by cases h)
theorem AKt.ff {t f : Tree} (h : AKt P cx Q f) : AKt P cx Q (.node false t f) := .node (fun h => by cases h) (fun _ => h)
theorem AKt.yes {b : Bool} {t f : Tree} (hb : b = true) (h : AKt P cx Q t) : AKt P cx Q (.node b t f) := .node (fun _ => h) (fun h' => by rw [hb] at h'; cases h')
theorem AKt.no {b : Bool} {t f : Tree} (hb : b = false) (h : AKt P cx Q f) : AKt P cx Q (.node b t f) := .node (fun h' => by rw [hb] at h'; cases h') (fun _ => h)

theorem view_wp (hτ : TabOK P τ) {ι : Io} {S1 : St} {a : Act} {w : World} (H : Rel cx.X cx.L cx.w0 cx.nt ι S1 a w) {o : Oper} {z : AV} (h0 : cx.w0.fr ≤ S1.fr)
    (hv : viewO τ S1 o.op = some z) (hd : ∀ d, o.dst = some d → d < cx.nt) {K : Act → World → Prop} {Q' : Exit → Act → World → Prop}
    (hK : ∀ ι' a' w', Rel cx.X cx.L cx.w0 cx.nt ι' (S1.put o.dst z) a' w' → K a' w') : o.wp P a w K Q' := by
  unfold viewO at hv
  split at hv
  · rename_i t n parts ho
    split at hv
    · rename_i k' e es hbs
      obtain rfl := Option.some.inj hv
      have hop : effOp Ar.real τ S1 o.op = some (.row S1.fr k', S1.new (.ds e k' es)) := by
        rw [ho]
        exact bsView_op hbs S1
      obtain ⟨v, w', ι', hrun, H', hrep⟩ := effOp_run hτ H hop
      have hb : look S1.fr (S1.new (.ds e k' es)).h = some (.ds e k' es) := by simp [St.new, look_cons]
      have hview := H'.hr.view hb hrep
      have H2 := (H'.forget S1.fr).put hd (.d _ _ hview)
      have hne : K (a.put o.dst v) w' → o.wp P a w K Q' := by
        intro hk
        unfold Oper.wp
        rcases hrun with hrun | ⟨hrun, rfl⟩
        · rw [hrun]; exact hk
        · rw [hrun]; exact hk
      refine hne ?_
      have g1 : ∀ i x, look i (S1.put o.dst (.d (.view k' es))).t = some x → look i (St.put ⟨(S1.new (.ds e k' es)).t, del S1.fr (S1.new (.ds e k' es)).h, (S1.new (.ds e k' es)).fr⟩ o.dst (.d (.view k' es))).t = some x ∧ x.lt S1.fr = true := by
        intro i x hx
        refine ⟨?_, ?_⟩
        · rw [← hx]
          cases o.dst <;> rfl
        · cases hdst : o.dst with
          | none =>
            rw [hdst] at hx
            exact (H.tm i x hx).lt_of H.hr.fresh
          | some d =>
            rw [hdst] at hx
            simp only [St.put, look_cons, look_del] at hx
            split at hx
            · obtain rfl := Option.some.inj hx; rfl
            · split at hx
              · cases hx
              · exact (H.tm i x hx).lt_of H.hr.fresh
      have g2 : ∀ n B, look n S1.h = some B → look n (St.put ⟨(S1.new (.ds e k' es)).t, del S1.fr (S1.new (.ds e k' es)).h, (S1.new (.ds e k' es)).fr⟩ o.dst (.d (.view k' es))).h = some B ∧ n < S1.fr ∧ B.lt S1.fr = true := by
        intro n B hn
        obtain ⟨h4, h5⟩ := (H.hr.hp n B hn).lt_of H.hr.fresh
        refine ⟨?_, h4, h5⟩
        have e3 : (St.put ⟨(S1.new (.ds e k' es)).t, del S1.fr (S1.new (.ds e k' es)).h, (S1.new (.ds e k' es)).fr⟩ o.dst (.d (.view k' es))).h = del S1.fr (S1.new (.ds e k' es)).h := by cases o.dst <;> rfl
        rw [e3, look_del, if_neg (by omega)]
        simp only [St.new, look_cons]
        rw [if_neg (by omega)]
        exact hn
      obtain ⟨ι2, H3⟩ := H2.unname g1 g2 h0
      refine hK ι2 _ w' ?_
      have e2 : S1.put o.dst (.d (.view k' es)) = ⟨(S1.put o.dst (.d (.view k' es))).t, S1.h, S1.fr⟩ := by cases o.dst <;> rfl
      rw [e2]
      exact H3
    · cases hv
  · cases hv

theorem viewO_congr {S S' : St} {op : Op} (h : ∀ x, x ∈ op.operands.toList → evl S x = evl S' x) : viewO τ S op = viewO τ S' op := by
  cases op <;> simp only [viewO]
  case buildSlice t n parts =>
    simp only [Op.operands] at h
    rw [evps_congr fun p hp => h p.2 (by simp only [List.mem_map]; exact ⟨p, hp, rfl⟩)]

theorem callT_some {G : Tbl} (hG : TblOK P G) {S : St} {op : Op} {b : Bool} {z : AV} (h : callT G S op = some (b, z)) (hb : b = true) :
    ∃ c fo g fi ca args, op = .call c ∧ c.callee = .value fo ∧ fargs (evl S fo) = some (g, fi, ca) ∧ app3 fi (evls S c.args.toList) ca = args ∧ lts 0 args = true ∧ z.lt 0 = true ∧ ESpec P g args (fun y => y = z) := by
  unfold callT at h
  split at h
  · rename_i c
    split at h
    · rename_i fo hc
      split at h
      · rename_i g fi ca hf
        split at h
        · rename_i φ hφ
          split at h
          · rename_i b' x hx
            split at h
            · rename_i h1 h2
              simp only [Option.some.injEq, Prod.mk.injEq] at h
              obtain ⟨rfl, rfl⟩ := h
              exact ⟨c, fo, g, fi, ca, _, rfl, hc, hf, rfl, h1, h2, hG.get hφ _ _ _ hx hb⟩
            · cases h
          · cases h
        · cases h
      · cases h
    · cases h
  · cases h

theorem DK.viewO (hτ : TabOK P τ) {all r : List Oper} {id : Nat} {k : List KI} {S0 S : St} {o : Oper} {z : AV} (h0 : cx.w0.fr ≤ S.fr)
    (hv : viewO τ S o.op = some z) (hg : guardB all S o = some true) (hd : ∀ d, o.dst = some d → d < cx.nt)
    (next : DK P cx Q all id k S0 (r, S.put o.dst z)) : DK P cx Q all id k S0 (o :: r, S) := by
  unfold Ua.viewO at hv
  split at hv
  · rename_i t n parts ho
    split at hv
    · rename_i k' e es hbs
      obtain rfl := Option.some.inj hv
      exact DK.view hτ h0 ho hbs hg hd next
    · cases hv
  · cases hv

theorem DK.pure (hτ : TabOK P τ) {all r : List Oper} {id : Nat} {k : List KI} {S0 S : St} {o : Oper} {z : AV} (hz : pureOp Ar.real τ S o.op = some z) (hg : guardB all S o = some true)
    (hd : (match o.dst with
      | some d => Nat.blt d cx.nt
      | none => true) = true)
    (next : DK P cx Q all id k S0 (r, S.put o.dst z)) : DK P cx Q all id k S0 (o :: r, S) := by
  refine DK.snoc z (fun j hj => ?_) next
  intro Q' K ι S1 a w H h1 h2 h3 hK
  unfold wpOp
  rw [show all.toArray[j]? = some o by simpa using hj]
  simp only
  rw [guardB_spec H (by rw [guardB_congr h3]; exact hg), if_pos rfl]
  refine .inl (stepOp_wp hτ H ?_ hK)
  unfold stepOp
  rw [pureOp_looks h1 h3, hz]
  cases hdst : o.dst with
  | none => rfl
  | some d =>
    rw [hdst] at hd
    simp only at hd ⊢
    rw [hd]

theorem DK.skip {all r : List Oper} {id : Nat} {k : List KI} {S0 S : St} {o : Oper} (hg : guardB all S o = some false) (hd : ∀ d, o.dst = some d → d < cx.nt)
    (next : DK P cx Q all id k S0 (r, S.put o.dst (.tup []))) : DK P cx Q all id k S0 (o :: r, S) := by
  refine DK.snoc _ (fun j hj => ?_) next
  intro Q' K ι S1 a w H h1 h2 h3 hK
  unfold wpOp
  rw [show all.toArray[j]? = some o by simpa using hj]
  simp only
  rw [guardB_spec H (by rw [guardB_congr h3]; exact hg), if_neg (by simp)]
  exact hK ι _ w (H.put hd (.tup [] [] rfl (by simp)))

theorem DK.callT {G : Tbl} (hG : TblOK P G) {all r : List Oper} {id : Nat} {k : List KI} {S0 S : St} {o : Oper} {b : Bool} {z : AV} (hc : callT G S o.op = some (b, z)) (hb : b = true) (hg : guardB all S o = some true)
    (hd : ∀ d, o.dst = some d → d < cx.nt) (next : DK P cx Q all id k S0 (r, S.put o.dst z)) : DK P cx Q all id k S0 (o :: r, S) := by
  obtain ⟨c, fo, g, fi, ca, args, ho, hcal, hf, ha, hl, hz, sp⟩ := callT_some hG hc hb
  refine DK.call0 sp z ho hcal hg hd hf (by rw [ha, rens_lt0 _ _ hl]) hl ?_ next
  rintro x h' fr' ⟨rfl, rfl, rfl⟩
  exact ⟨ren_lt0 _ _ hz, rfl, rfl⟩

theorem lit_fr (S : St) (d : Nat) (b : Bool) : (S.lit d b).fr = S.fr := rfl

theorem runDT_ok (hτ : TabOK P τ) (hm : P.follows .mixedOrders = true) {G : Tbl} (hG : TblOK P G) {all : List Oper} {id : Nat} {k : List KI} {S0 : St} {st : Tree} {K : List Oper → List Nat → St → Tree}
    (hst : AKm P cx Q st → AK P cx Q (.code (.region id all.toArray true) :: k) S0) (hK : ∀ rest dc S, cx.w0.fr ≤ S.fr → AKm P cx Q (K rest dc S) → AK P cx Q (.ops all rest :: k) S) :
    ∀ (f j : Nat) (dc : List Nat) (r : List Oper) (S : St), cx.w0.fr ≤ S.fr → AKm P cx Q (runDT Fam.real τ cx.nt G all st K f j dc r S) → DK P cx Q all id k S0 (r, S)
  | 0, j, dc, r, S, h0, h => fun _ _ _ _ => hst (by unfold runDT at h; exact h)
  | f + 1, j, dc, [], S, h0, h => by
    unfold runDT at h
    split at h
    · rename_i hc
      exact DK.fin hm (by simpa using hc) (hK _ _ _ h0 h)
    · exact fun _ _ _ _ => hst h
  | f + 1, j, dc, o :: r, S, h0, h => by
    have ih := runDT_ok hτ hm hG hst hK f
    have hp : ∀ z, cx.w0.fr ≤ (S.put o.dst z).fr := fun z => by rw [put_fr]; exact h0
    have ask : ∀ (d : Nat) (b : Bool), look d S.t = some (.d (.s (.bool b))) → AKm P cx Q (.node b (runDT Fam.real τ cx.nt G all st K f j (d :: dc) (o :: r) (S.lit d true)) (runDT Fam.real τ cx.nt G all st K f j (d :: dc) (o :: r) (S.lit d false))) → DK P cx Q all id k S0 (o :: r, S) := by
      intro d b hl h
      cases b
      · have := ih _ _ _ _ (by rw [lit_fr]; exact h0) (h.2 rfl)
        rwa [lit_id hl] at this
      · have := ih _ _ _ _ (by rw [lit_fr]; exact h0) (h.1 rfl)
        rwa [lit_id hl] at this
    unfold runDT at h
    split at h
    · split at h
      · rename_i hc
        exact DK.fin hm hc (hK _ _ _ h0 h)
      · exact fun _ _ _ _ => hst h
    · split at h
      · rename_i d b hask
        exact ask d b (askG_look hask) h
      · split at h
        · rename_i hd hg
          split at h
          · rename_i d b hask
            exact ask d b (askP_look hask) h
          · split at h
            · rename_i b z hc
              exact DK.callT hG hc h.1 hg (dst_lt hd) (ih _ _ _ _ (hp _) (h.2 h.1))
            · split at h
              · rename_i b z hc
                exact DK.pure hτ (opT_pure hc h.1) hg hd (ih _ _ _ _ (hp _) (h.2 h.1))
              · split at h
                · rename_i z hv
                  exact DK.viewO hτ h0 hv hg (dst_lt hd) (ih _ _ _ _ (hp _) h)
                · split at h
                  · exact fun _ _ _ _ => hst h
                  · split at h
                    · rename_i z hz
                      exact DK.pure hτ hz hg hd (ih _ _ _ _ (hp _) h)
                    · exact fun _ _ _ _ => hst h
        · rename_i hd hg
          exact DK.skip hg (dst_lt hd) (ih _ _ _ _ (hp _) h)
        · exact fun _ _ _ _ => hst h

theorem stepOp_pure {S : St} {nt : Nat} {o : Oper} {z : AV} (hz : pureOp Ar.real τ S o.op = some z) (hd : (match o.dst with
      | some d => Nat.blt d nt
      | none => true) = true) : stepOp Ar.real τ nt S o = some (S.put o.dst z) := by
  unfold stepOp
  rw [hz]
  cases hdst : o.dst with
  | none => rfl
  | some d =>
    rw [hdst] at hd
    simp only at hd ⊢
    rw [hd]

theorem stepOp_eff {S S' : St} {nt : Nat} {o : Oper} {z : AV} (hz : pureOp Ar.real τ S o.op = none) (he : effOp Ar.real τ S o.op = some (z, S')) (hd : (match o.dst with
      | some d => Nat.blt d nt
      | none => true) = true) : stepOp Ar.real τ nt S o = some (S'.put o.dst z) := by
  unfold stepOp
  rw [hz, he]
  cases hdst : o.dst with
  | none => rfl
  | some d =>
    rw [hdst] at hd
    simp only at hd ⊢
    rw [hd]

theorem AK.stepT (hτ : TabOK P τ) (hm : P.follows .mixedOrders = true) (h0 : cx.w0.fr = 0) {G : Tbl} (hG : TblOK P G) (fz : Bool) : ∀ (f : Nat) (dc : List Nat) (k : List KI) (S : St), AKm P cx Q (runT Fam.real τ cx.nt fz G f dc k S) → AK P cx Q k S := by
  intro f
  induction f with
  | zero => intro dc k S h; exact h
  | succ f ih =>
    intro dc k S h
    unfold runT at h
    split at h
    · exact h
    · exact h
    · rename_i id k
      have := ih _ _ _ h
      intro ι a w H
      exact this ι a w H
    · rename_i all k
      have := ih _ _ _ h
      intro ι a w H
      exact this ι a w H
    · rename_i all o r k
      have ask : ∀ (d : Nat) (b : Bool), look d S.t = some (.d (.s (.bool b))) → AKm P cx Q (.node b (runT Fam.real τ cx.nt fz G f (d :: dc) (.ops all (o :: r) :: k) (S.lit d true)) (runT Fam.real τ cx.nt fz G f (d :: dc) (.ops all (o :: r) :: k) (S.lit d false))) → AK P cx Q (.ops all (o :: r) :: k) S := by
        intro d b hl h
        cases b
        · have := ih _ _ _ (h.2 rfl)
          rwa [lit_id hl] at this
        · have := ih _ _ _ (h.1 rfl)
          rwa [lit_id hl] at this
      have step : ∀ {S' : St}, stepOp Ar.real τ cx.nt S o = some S' → guardB all S o = some true → AK P cx Q (.ops all r :: k) S' → AK P cx Q (.ops all (o :: r) :: k) S := by
        intro S' hS hg this ι a w H
        show wpList P all.toArray (den P cx Q k) (o :: r) a w
        unfold wpList
        rw [guardB_spec H hg, if_pos rfl]
        exact .inl (stepOp_wp hτ H hS fun ι' a' w' H' => this ι' a' w' H')
      split at h
      · rename_i d b hask
        exact ask d b (askG_look hask) h
      · split at h
        · rename_i hd hg
          split at h
          · rename_i d b hask
            exact ask d b (askP_look hask) h
          · split at h
            · rename_i b z hc
              obtain ⟨c, fo, g, fi, ca, args, ho, hcal, hf, ha, hl, hz, sp⟩ := callT_some hG hc h.1
              have := ih _ _ _ (h.2 h.1)
              refine AK.call0 sp ho hcal hg (dst_lt hd) hf (by rw [ha, rens_lt0 _ _ hl]) hl ?_
              rintro x h' fr' ⟨rfl, rfl, rfl⟩
              rw [ren_lt0 _ _ hz]
              exact this
            · split at h
              · rename_i b z hc
                exact step (stepOp_pure (opT_pure hc h.1) hd) hg (ih _ _ _ (h.2 h.1))
              · split at h
                · rename_i b z S' hc
                  obtain ⟨h1, h2⟩ := opE_ok hc h.1
                  exact step (stepOp_eff h2 h1 hd) hg (ih _ _ _ (h.2 h.1))
                · split at h
                  · rename_i z hv
                    have hv : viewO τ S o.op = some z := by
                      split at hv
                      · exact hv
                      · cases hv
                    have := ih _ _ _ h
                    intro ι a w H
                    show wpList P all.toArray (den P cx Q k) (o :: r) a w
                    unfold wpList
                    rw [guardB_spec H hg, if_pos rfl]
                    exact .inl (view_wp hτ H (by omega) hv (dst_lt hd) fun ι' a' w' H' => this ι' a' w' H')
                  · split at h
                    · exact h
                    · split at h
                      · rename_i S' hS
                        exact step hS hg (ih _ _ _ h)
                      · exact h
        · rename_i hd hg
          have := ih _ _ _ h
          intro ι a w H
          show wpList P all.toArray (den P cx Q k) (o :: r) a w
          unfold wpList
          rw [guardB_spec H hg, if_neg (by simp)]
          refine this ι _ w (H.put (fun n hn => ?_) ?_)
          · rw [hn] at hd
            exact blt_lt hd
          · exact .tup [] [] rfl (by simp)
        · exact h
    · rename_i c k
      split at h
      · have := ih _ _ _ h
        intro ι a w H
        exact wp_skip (this ι a w H)
      · rename_i x y
        have := ih _ _ _ h
        intro ι a w H
        exact den_seq (this ι a w H)
      · rename_i id x
        have := ih _ _ _ h
        intro ι a w H
        exact wp_block (this ι a w H)
      · rename_i id
        split at h
        · rename_i k' hk
          have := ih _ _ _ h
          intro ι a w H
          exact wp_exit (den_exit id k k' hk a w (this ι a w H))
        · exact h
      · rename_i c x y
        have cond : ∀ b : Bool, evl S c = .d (.s (.bool b)) → (b = true → AK P cx Q (.code x :: k) S) → (b = false → AK P cx Q (.code y :: k) S) → AK P cx Q (.code (.cond c x y) :: k) S := by
          intro b hc h1 h2 ι a w H
          have he := H.evl c
          rw [hc] at he
          cases b
          · exact wp_cond (rep_s he) (h2 rfl ι a w H)
          · exact wp_cond (rep_s he) (h1 rfl ι a w H)
        split at h
        · rename_i d b hask
          have hl := askX_look hask
          have hc : evl S c = .d (.s (.bool b)) := by
            unfold askX at hask
            split at hask
            · rename_i d'
              split at hask
              · cases hask
              · split at hask
                · rename_i b' hl'
                  simp only [Option.some.injEq, Prod.mk.injEq] at hask
                  obtain ⟨rfl, rfl⟩ := hask
                  simp only [evl, hl']
                · cases hask
            · cases hask
          refine cond b hc (fun hb => ?_) (fun hb => ?_)
          · subst hb
            have := ih _ _ _ (h.1 rfl)
            rwa [lit_id hl] at this
          · subst hb
            have := ih _ _ _ (h.2 rfl)
            rwa [lit_id hl] at this
        · split at h
          · rename_i b hc
            refine cond b hc (fun hb => ?_) (fun hb => ?_)
            · subst hb; exact ih _ _ _ h
            · subst hb; exact ih _ _ _ h
          · exact h
      · rename_i id ops dr
        split at h
        · have := ih _ _ _ h
          intro ι a w H
          refine wp_region_list ?_
          have := this ι a w H
          simpa [den, Exit.then] using this
        · have := runDT_ok (P := P) (cx := cx) (Q := Q) (id := id) (k := k) (S0 := S) (all := ops.toList) (st := .leaf (.code (.region id ops true) :: k) S) hτ hm hG (fun h => h) (fun rest dc S _ h => ih dc _ S h) _ _ _ _ _ (by omega) h
          exact AKp.drawn this
      · rename_i l
        have := ih _ _ _ h
        intro ι a w H
        exact wp_label (this ι a w H)
      · exact h

/-- What goes by itself, as a tree. -/
theorem AK.runT {F : Fam} (hF : F = Fam.real) (hτ : TabOK P τ) (hm : P.follows .mixedOrders = true) {n : Nat} (hn : cx.nt = n) (h0 : cx.w0.fr = 0) (fz : Bool) (G : Tbl) (hG : TblOK P G) {k : List KI} {S : St}
    (h : AKt P cx Q (runT F τ n fz G 100000 [] k S)) : AK P cx Q k S := by
  subst hF
  subst hn
  exact AK.stepT hτ hm h0 hG fz _ _ k S h.m

/-- A loop whose round is a tree. -/
theorem AKl.invT {F : Fam} (hF : F = Fam.real) (hτ : TabOK P τ) (hm : P.follows .mixedOrders = true) {nn : Nat} (hn : cx.nt = nn) {c : Code} {k : List KI} {S : St} {K : List (Nat × AV)} (h0 : cx.w0.fr = 0) (fz : Bool) (G : Tbl) (hG : TblOK P G)
    (I : Nat → List (Nat × AV) → List (Nat × Blk) → Prop) (n : Nat) {vs : List (Nat × AV)} {hs : List (Nat × Blk)}
    (hI : I n vs hs) (h1 : leT0 S.fr S.t (appT vs K)) (h2 : leH0 S.fr S.h hs)
    (round : ∀ (J : St → Prop) n vs hs, (∀ m vs hs, m < n → I m vs hs → J ⟨appT vs K, hs, S.fr⟩) → I n vs hs → AKt P cx Q (Ua.runT F τ nn fz G 100000 [] (.code c :: .back J :: k) ⟨appT vs K, hs, S.fr⟩)) : AKl P cx Q c k S K := by
  intro hK
  refine AKp.loop (I := fun n S' => ∃ vs hs, I n vs hs ∧ S' = ⟨appT vs K, hs, S.fr⟩) ⟨appT vs K, hs, S.fr⟩ h0 h1 h2 n ⟨vs, hs, hI, rfl⟩ ?_
  rintro n S' ⟨vs, hs, hI, rfl⟩
  refine AK.runT hF hτ hm hn h0 fz G hG (round _ n vs hs ?_ hI)
  intro m vs hs hm hI
  exact ⟨m, hm, vs, hs, hI, rfl⟩
end
end Go.Ua

/-! ### What is reckoned, as it is -/
namespace Go.Ua
open Go Go.Proofs
theorem f_ltI (a b : Int) : Fam.real .ltI a b = decide (a < b) := rfl
theorem f_leI (a b : Int) : Fam.real .leI a b = decide (a ≤ b) := rfl
theorem f_eqI (a b : Int) : Fam.real .eqI a b = (a == b) := rfl
theorem f_eqS (a b : List UInt8) : Fam.real .eqS a b = (a == b) := rfl
theorem f_eqB (a b : Bool) : Fam.real .eqB a b = (a == b) := rfl
theorem f_not (a : Bool) : Fam.real .not a = !a := rfl
theorem f_lenS (a : List UInt8) : Fam.real .lenS a = (a.length : Int) := rfl
theorem f_lenD (a : List Dat) : Fam.real .lenD a = (a.length : Int) := rfl
theorem f_hasS (l : List UInt8) (n : Int) : Fam.real .hasS l n = (decide (0 ≤ n) && decide (n < (l.length : Int))) := rfl
theorem f_atS (l : List UInt8) (n : Int) : Fam.real .atS l n = ((l.getD n.toNat 0).toNat : Int) := rfl
theorem f_hasC (l : List UInt8) (i j : Int) : Fam.real .hasC l i j = (decide (0 ≤ i) && (decide (i ≤ j) && decide (j ≤ (l.length : Int)))) := rfl
theorem f_subS (l : List UInt8) (i j : Int) : Fam.real .subS l i j = (l.take j.toNat).drop i.toNat := rfl
theorem f_hasCat (a b : List UInt8) : Fam.real .hasCat a b = decide (a.length + b.length ≤ 9223372036854775807) := rfl
theorem f_app (a b : List UInt8) : Fam.real .app a b = a ++ b := rfl
theorem f_wrap (k : IntKind) (a : Int) : Fam.real .wrap k a = k.wrap a := rfl
theorem f_add (a b : Int) : Fam.real .add a b = a + b := rfl
theorem f_sub (a b : Int) : Fam.real .sub a b = a - b := rfl
theorem f_mul (a b : Int) : Fam.real .mul a b = a * b := rfl
theorem f_appD (a b : List Dat) : Fam.real .appD a b = a ++ b := rfl
theorem f_fits (n : Nat) (a : List Dat) : Fam.real .fits n a = decide (a.length * n ≤ 70368744177664) := rfl
theorem f_hasV (l : List Dat) (i j : Int) : Fam.real .hasV l i j = (decide (0 ≤ i) && (decide (i ≤ j) && decide (j ≤ (l.length : Int)))) := rfl
theorem f_subV (l : List Dat) (i j : Int) : Fam.real .subV l i j = (l.take j.toNat).drop i.toNat := rfl
theorem f_ofStr (l : List Dat) : Fam.real .ofStr l = (strOf l).getD [] := rfl
theorem f_hasStr (l : List Dat) : Fam.real .hasStr l = (strOf l).isSome := rfl

section
variable {F : Fam} (hF : F = Fam.real)
include hF
theorem t_hasS {s : List UInt8} {i : Nat} {iv : Int} (h : i < s.length) (hi : iv = i) : F .hasS s iv = true := by
  subst hF; subst hi
  rw [f_hasS, decide_eq_true (by omega), decide_eq_true (by omega)]; rfl
theorem t_atS {s : List UInt8} {i : Nat} {c : UInt8} {iv : Int} (h : s[i]? = some c) (hi : iv = i) : F .atS s iv = (c.toNat : Int) := by
  subst hF; subst hi
  rw [f_atS, Int.toNat_natCast, List.getD_eq_getElem?_getD, h]; rfl
theorem t_hasC {s : List UInt8} {i j : Nat} {iv jv : Int} (hi : iv = i) (hj : jv = j) (h1 : i ≤ j) (h2 : j ≤ s.length) : F .hasC s iv jv = true := by
  subst hF; subst hi; subst hj
  rw [f_hasC, decide_eq_true (by omega), decide_eq_true (by omega), decide_eq_true (by omega)]; rfl
theorem t_subS {s : List UInt8} {i j : Nat} {iv jv : Int} (hi : iv = i) (hj : jv = j) : F .subS s iv jv = (s.take j).drop i := by
  subst hF; subst hi; subst hj; rfl
theorem t_hasV {s : List Dat} {i j : Nat} {iv jv : Int} (hi : iv = i) (hj : jv = j) (h1 : i ≤ j) (h2 : j ≤ s.length) : F .hasV s iv jv = true := by
  subst hF; subst hi; subst hj
  rw [f_hasV, decide_eq_true (by omega), decide_eq_true (by omega), decide_eq_true (by omega)]; rfl
theorem t_subV {s : List Dat} {i j : Nat} {iv jv : Int} (hi : iv = i) (hj : jv = j) : F .subV s iv jv = (s.take j).drop i := by
  subst hF; subst hi; subst hj; rfl
theorem t_hasCat {a b : List UInt8} (h : a.length + b.length ≤ 9223372036854775807) : F .hasCat a b = true := by
  subst hF; exact decide_eq_true h
theorem t_hasD {es : List Dat} {i : Nat} {d : Dat} {iv : Int} {sk : List SK} (h : es[i]? = some d) (hi : iv = i) (hs : sksOK sk d.cells = true) : F .hasD es iv sk = true := by
  subst hF; subst hi
  show (match getI es (i : Int) with | some d => sksOK sk d.cells | none => false) = true
  rw [show getI es (i : Int) = some d by simp [getI, h]]
  exact hs
omit hF in
theorem t_cell {es : List Dat} {i j : Nat} {d c : Dat} {iv : Int} (h : es[i]? = some d) (hi : iv = i) (hc : d.cells[j]? = some c) : ((es.getD iv.toNat (.agg [])).cells).getD j (.agg []) = c := by
  subst hi
  have e : es.getD i (.agg []) = d := by rw [List.getD_eq_getElem?_getD, h]; rfl
  rw [Int.toNat_natCast, e, List.getD_eq_getElem?_getD, hc]; rfl
theorem t_strA {es : List Dat} {i j : Nat} {d : Dat} {s : List UInt8} {iv : Int} (h : es[i]? = some d) (hi : iv = i) (hc : d.cells[j]? = some (.s (.str s))) : F .strA es iv j = s := by
  subst hF
  show (match ((es.getD iv.toNat (.agg [])).cells).getD j (.agg []) with | .s (.str s) => s | _ => []) = s
  rw [t_cell h hi hc]
theorem t_boolA {es : List Dat} {i j : Nat} {d : Dat} {s : Bool} {iv : Int} (h : es[i]? = some d) (hi : iv = i) (hc : d.cells[j]? = some (.s (.bool s))) : F .boolA es iv j = s := by
  subst hF
  show (match ((es.getD iv.toNat (.agg [])).cells).getD j (.agg []) with | .s (.bool s) => s | _ => false) = s
  rw [t_cell h hi hc]
theorem t_intA {es : List Dat} {i j : Nat} {d : Dat} {k : IntKind} {s : Int} {iv : Int} (h : es[i]? = some d) (hi : iv = i) (hc : d.cells[j]? = some (.s (.int k s))) : F .intA es iv j = s := by
  subst hF
  show (match ((es.getD iv.toNat (.agg [])).cells).getD j (.agg []) with | .s (.int _ s) => s | _ => 0) = s
  rw [t_cell h hi hc]
theorem t_viewA {es : List Dat} {i j k : Nat} {d : Dat} {s : List Dat} {iv : Int} (h : es[i]? = some d) (hi : iv = i) (hc : d.cells[j]? = some (.view k s)) : F .viewA es iv j = s := by
  subst hF
  show (match ((es.getD iv.toNat (.agg [])).cells).getD j (.agg []) with | .view _ s => s | _ => []) = s
  rw [t_cell h hi hc]
theorem t_str0 {zs : List (List UInt8)} {i : Nat} {s : List UInt8} {iv : Int} (h : zs[i]? = some s) (hi : iv = i) : F .strA (strDs zs) iv 0 = s :=
  t_strA hF (i := i) (d := .s (.str s)) (by simp [strDs, h]) hi rfl
theorem t_hasStrs {zs : List (List UInt8)} {i : Nat} {iv : Int} (h : i < zs.length) (hi : iv = i) : F .hasD (strDs zs) iv [.str] = true :=
  t_hasD hF (i := i) (d := .s (.str zs[i])) (by simp [strDs, h]) hi rfl
end
end Go.Ua
namespace Go.Ua
open Go Go.Proofs
theorem ESpec.ok {P : Program} [Globs P] {f : FuncId} {args : List AV} {post : AV → Prop} (he : Enters P f) (h : AVoks args → ESpec P f args post) : ESpec P f args post :=
  ⟨he, fun X L w ι vs h1 hg h2 h3 => (h (avoks_of h2 h3)).2 X L w ι vs h1 hg h2 h3⟩
theorem u8_of {n : Int} (h : (Sc.int .u8 n).ok) : ((UInt8.ofNat n.toNat).toNat : Int) = n := by
  have h1 : 0 ≤ n := h.1
  have h2 : n ≤ 255 := h.2
  rw [UInt8.toNat_ofNat']
  omega
/-- The texts of a list. -/
def unStr (es : List Dat) : List (List UInt8) := es.map fun d => match d with
  | .s (.str s) => s
  | _ => []
def isStrs (es : List Dat) : Bool := es.all fun d => match d with
  | .s (.str _) => true
  | _ => false
theorem unStr_strDs (l : List (List UInt8)) : unStr (strDs l) = l := by
  unfold unStr strDs
  rw [List.map_map]
  induction l with
  | nil => rfl
  | cons x r ih => simp [ih]
theorem isStrs_strDs (l : List (List UInt8)) : isStrs (strDs l) = true := by
  unfold isStrs strDs
  rw [List.all_map]
  exact List.all_eq_true.2 fun x _ => rfl
theorem strDs_unStr : ∀ {es : List Dat}, isStrs es = true → strDs (unStr es) = es
  | [], _ => rfl
  | d :: es, h => by
    unfold isStrs at h
    simp only [List.all_cons, Bool.and_eq_true] at h
    have ih := strDs_unStr (es := es) h.2
    have hd := h.1
    split at hd
    · show Dat.s (.str _) :: strDs (unStr es) = _
      rw [ih]
    · cases hd
theorem strDs_length (l : List (List UInt8)) : (strDs l).length = l.length := by simp [strDs]
theorem strDs_take (l : List (List UInt8)) (n : Nat) : (strDs l).take n = strDs (l.take n) := by simp [strDs, List.map_take]
theorem strDs_drop (l : List (List UInt8)) (n : Nat) : (strDs l).drop n = strDs (l.drop n) := by simp [strDs, List.map_drop]
theorem strDs_append (a b : List (List UInt8)) : strDs a ++ strDs b = strDs (a ++ b) := by simp [strDs]
theorem strDs_inj {a b : List (List UInt8)} (h : strDs a = strDs b) : a = b := by rw [← unStr_strDs a, h, unStr_strDs]
theorem avb {a b : Bool} (h : a = b) : AV.d (.s (.bool a)) = AV.d (.s (.bool b)) := by rw [h]
theorem t_fits {F : Fam} (hF : F = Fam.real) {n : Nat} {es : List Dat} (h : es.length * n ≤ 70368744177664) : F .fits n es = true := by
  subst hF; exact decide_eq_true h
theorem t_appD {F : Fam} (hF : F = Fam.real) (a b : List Dat) : F .appD a b = a ++ b := by subst hF; rfl
end Go.Ua

/- Lists, joined. -/
namespace Go.Proofs.YtialapjchamkfaaDoor
open Go Go.Proofs Go.Ua Go.Extern
set_option linter.unusedVariables false
set_option linter.unusedSimpArgs false

theorem StrJoin_spec (zs : List (List UInt8)) (sep : List UInt8) (hN : zs.length ≤ 140737488355328) (hlen : (Lib.join zs sep).length ≤ 140737488355328) :
    ESpec Tryd.prog 42 [.d (.view 1 (strDs zs)), .d (.s (.str sep))] (fun x => x = .d (.s (.str (Lib.join zs sep)))) := by
  refine ESpec.grown (enters_of Tryd.func42 (by kernel_rfl) rfl) (Nat.le_trans hlen (by decide)) fun R ι vs w hR hG hl hr => ?_
  obtain ⟨v0, v1, rfl⟩ : ∃ v0 v1, vs = [v0, v1] := by
    match vs, hl with
    | [v0, v1], _ => exact ⟨v0, v1, rfl⟩
  obtain rfl := rep_s (hr 1 _ _ rfl rfl)
  have h0 := rep_d (hr 0 _ _ rfl rfl)
  rcases view_strs h0 with ⟨rfl, a, cap, rfl⟩ | ⟨b, off, cap, rfl, hcap, hmx, hcell⟩
  · refine (Tryd.strings_Join_none a cap ⟨sep.toArray⟩ w).mono ?_
    rintro e w' ⟨rfl, rfl⟩
    exact ⟨by simp [Lib.join_nil, Sc.val], RowKit.Below.refl _ _⟩
  · cases hz : zs with
    | nil =>
      subst hz
      refine (Tryd.strings_Join_none (some ⟨b, off, none⟩) cap ⟨sep.toArray⟩ w).mono ?_
      rintro e w' ⟨rfl, rfl⟩
      exact ⟨by simp [Lib.join_nil, Sc.val], RowKit.Below.refl _ _⟩
    | cons z r =>
      rw [← hz]
      obtain ⟨L, hL⟩ : ∃ L : List ByteArray, L = zs.map fun s => ⟨s.toArray⟩ := ⟨_, rfl⟩
      have hLl : L.length = zs.length := by rw [hL]; simp
      have hLd : L.map (·.data.toList) = zs := by rw [hL, List.map_map]; simp [Function.comp_def]
      have hb : b < w.heap.size := block_lt_of_cell (hR _ _ _ (hcell 0 z (by rw [hz]; rfl)))
      rw [← hLl]
      refine (Tryd.strings_Join b off cap L ⟨sep.toArray⟩ w (fun j x hx => ?_) hb (by omega) (by omega) (by rw [hLd]; simpa using hlen)).mono ?_
      · rw [hL, List.getElem?_map] at hx
        obtain ⟨s, hs, rfl⟩ := Option.map_eq_some_iff.1 hx
        exact hR _ _ _ (hcell j s hs)
      · rintro e w' ⟨rfl, hbw⟩
        refine ⟨?_, hbw⟩
        rw [hLd]
        simp [Sc.val]

theorem join_le : ∀ (l : List (List UInt8)), (∀ p, p ∈ l → p.length ≤ 64) → (Lib.join l [44]).length ≤ 65 * l.length
  | [], _ => by simp [Lib.join_nil]
  | x :: r, h => by
    rw [Lib.join_cons]
    have ht : ∀ (r : List (List UInt8)), (∀ p, p ∈ r → p.length ≤ 64) → (Lib.joinTail [44] r).length ≤ 65 * r.length := by
      intro r
      induction r with
      | nil => intro _; simp [Lib.joinTail]
      | cons y r ih =>
        intro h
        have h1 := ih fun p hp => h p (List.mem_cons_of_mem _ hp)
        have h2 := h y (by simp)
        simp only [Lib.joinTail, List.map_cons, List.flatten_cons, List.length_append, List.length_cons, List.length_nil] at h1 ⊢
        omega
    have h1 := ht r fun p hp => h p (List.mem_cons_of_mem _ hp)
    have h2 := h x (by simp)
    simp only [List.length_append, List.length_cons]
    omega
theorem good_le {l : List (List UInt8)} (h : goodF l = true) : l.length ≤ 8 ∧ ∀ p, p ∈ l → p.length ≤ 64 := by
  unfold goodF at h
  rcases (Bool.or_eq_true _ _).mp h with h | h
  · have := eq_of_beq h
    subst this
    exact ⟨by decide, fun p hp => by obtain rfl := List.mem_singleton.1 hp; decide⟩
  · simp only [Bool.and_eq_true, decide_eq_true_eq] at h
    refine ⟨h.2, fun p hp => ?_⟩
    have := List.all_eq_true.1 h.1.1 p hp
    unfold wordF at this
    simp only [Bool.and_eq_true, decide_eq_true_eq] at this
    exact this.1.1.2

def joinF (l : List (List UInt8)) : List UInt8 := if goodF l = true then (if l = [] then [45] else Lib.join l [44]) else []

theorem Join_spec (l : List (List UInt8)) : ESpec Tryd.prog 22 [.d (.view 1 (strDs l))] (fun x => x = .d (.s (.str (joinF l)))) := by
  have sg := good_spec l
  have sj : goodF l = true → ESpec Tryd.prog 42 [.d (.view 1 (strDs l)), .d (.s (.str [44]))] (fun x => x = .d (.s (.str (Lib.join l [44])))) := fun h => by
    obtain ⟨h1, h2⟩ := good_le h
    have h3 := join_le l h2
    exact StrJoin_spec l [44] (by omega) (by omega)
  have hj : joinF l = if goodF l = true then (if l = [] then [45] else Lib.join l [44]) else [] := rfl
  obtain ⟨z, hz⟩ : ∃ z, z = joinF l := ⟨_, rfl⟩
  obtain ⟨es, hes⟩ : ∃ z, z = strDs l := ⟨_, rfl⟩
  have hel : es.length = l.length := by rw [hes]; simp [strDs]
  obtain ⟨J, hJ⟩ : ∃ z, z = Lib.join l [44] := ⟨_, rfl⟩
  rw [← hJ] at sj hj
  rw [← hz] at hj ⊢
  rw [← hes] at sg sj ⊢
  generalize goodF l = g at sg sj hj
  refine ESpec.enter Tryd.func22 (by kernel_rfl) rfl (Nat.le_of_ble_eq_true rfl) fun _ cx hnt hfr => ?_
  obtain ⟨F, hF⟩ := real_ex
  refine AK.run hF tabOK hnt ?_
  conv => arg 4; cbv
  refine AKp.call hF tabOK hnt sg rfl rfl rfl rfl rfl rfl rfl (by repeat' first | exact .refl _ | constructor) ?_
  rintro _ rfl
  conv => arg 4; cbv
  cases g
  case' false =>
    rw [l_not0 hF]
    conv => arg 4; cbv
    rw [show z = [] by rw [hj]; rfl]
    exact AKp.doneE tabOK hfr (by rfl) (by rfl)
  case' true =>
  have sj := sj rfl
  rw [l_not1 hF]
  conv => arg 4; cbv
  cases h1 : F .eqI (F .lenD es) 0
  case' true =>
    have h1' := eqI1 hF h1
    rw [l_lenD hF] at h1'
    have hl : l = [] := List.eq_nil_of_length_eq_zero (by omega)
    conv => arg 4; cbv
    rw [show z = [45] by rw [hj, if_pos rfl, if_pos hl]]
    exact AKp.doneE tabOK hfr (by rfl) (by rfl)
  case' false =>
  have h1' := eqI0 hF h1
  rw [l_lenD hF] at h1'
  have hl : l ≠ [] := by rintro rfl; exact h1' (by rw [hel]; rfl)
  conv => arg 4; cbv
  refine AKp.call hF tabOK hnt sj rfl rfl rfl rfl rfl rfl rfl (by repeat' first | exact .refl _ | constructor) ?_
  rintro _ rfl
  conv => arg 4; cbv
  rw [show J = z by rw [hj, if_pos rfl, if_neg hl]]
  exact AKp.doneE tabOK hfr (by rfl) (by rfl)
end Go.Proofs.YtialapjchamkfaaDoor

/- Lists are read as they were joined, joined as they were read: plain laws. -/
namespace Go.Proofs.YtialapjchamkfaaDoor
open Go Go.Proofs Go.Ua Go.Extern
set_option linter.unusedVariables false
set_option linter.unusedSimpArgs false

theorem join_cons2 (c : UInt8) (p q : List UInt8) (r : List (List UInt8)) : Lib.join (p :: q :: r) [c] = p ++ c :: Lib.join (q :: r) [c] := by
  rw [Lib.join_cons, Lib.join_cons]
  simp [Lib.joinTail]

theorem join_cut (c : UInt8) : ∀ w : List UInt8, Lib.join (cutF c w) [c] = w
  | [] => by simp [cutF, Lib.join_one]
  | b :: r => by
    have ih := join_cut c r
    unfold cutF
    cases hr : cutF c r with
    | nil => exact absurd hr (cutF_ne c r)
    | cons q qs =>
      rw [hr] at ih
      by_cases e : b = c
      · rw [if_pos e, join_cons2, ih, e]; rfl
      · rw [if_neg e]
        cases qs with
        | nil => rw [Lib.join_one] at ih ⊢; simp [ih]
        | cons q2 qs => rw [join_cons2] at ih ⊢; simp [← ih]

theorem cut_append {c : UInt8} : ∀ {p : List UInt8} (r : List UInt8), c ∉ p → cutF c (p ++ c :: r) = p :: cutF c r
  | [], r, _ => by simp [cutF]
  | b :: p, r, h => by
    have h1 : b ≠ c := fun e => h (by rw [e]; simp)
    have ih := cut_append (p := p) r (fun hm => h (List.mem_cons_of_mem _ hm))
    rw [List.cons_append, show cutF c (b :: (p ++ c :: r)) = (if b = c then [] :: cutF c (p ++ c :: r) else match cutF c (p ++ c :: r) with
      | q :: ps => (b :: q) :: ps
      | [] => [[b]]) from rfl, if_neg h1, ih]

theorem cut_join {c : UInt8} : ∀ {l : List (List UInt8)}, l ≠ [] → (∀ p, p ∈ l → c ∉ p) → cutF c (Lib.join l [c]) = l
  | [], h, _ => absurd rfl h
  | [p], _, h => by rw [Lib.join_one]; exact cutF_none (h p (by simp))
  | p :: q :: r, _, h => by
    rw [join_cons2, cut_append _ (h p (by simp)), cut_join (by simp) fun x hx => h x (List.mem_cons_of_mem _ hx)]

theorem good_no {l : List (List UInt8)} (h : goodF l = true) : ∀ p, p ∈ l → (44 : UInt8) ∉ p := by
  intro p hp hm
  unfold goodF at h
  rcases (Bool.or_eq_true _ _).mp h with h | h
  · have := eq_of_beq h
    subst this
    obtain rfl := List.mem_singleton.1 hp
    simp at hm
  · simp only [Bool.and_eq_true] at h
    have := List.all_eq_true.1 h.1.1 p hp
    rw [wordF_no hm (.inl rfl)] at this
    cases this

/-- Read as it was joined. -/
theorem list_join {l : List (List UInt8)} (h : joinF l ≠ []) : listF (joinF l) = some l := by
  unfold joinF at h ⊢
  by_cases hg : goodF l = true
  · rw [if_pos hg] at h ⊢
    by_cases hl : l = []
    · subst hl; rw [if_pos rfl]; rfl
    · rw [if_neg hl]
      have hc := cut_join hl (good_no hg)
      obtain ⟨g1, g2⟩ := good_le hg
      have g3 := join_le l g2
      unfold listF
      rw [if_neg, if_neg (by omega), hc, if_pos hg]
      intro e
      rw [e] at hc
      have : l = [[45]] := by rw [← hc]; decide
      subst this
      revert hg
      decide
  · rw [if_neg hg] at h; exact absurd rfl h

/-- Joined as it was read. -/
theorem join_list {w : List UInt8} {m : List (List UInt8)} (h : listF w = some m) : joinF m = w := by
  unfold listF at h
  by_cases h1 : w = [45]
  · rw [if_pos h1] at h
    obtain rfl := Option.some.inj h
    rw [h1]; decide
  · rw [if_neg h1] at h
    split at h
    · cases h
    · split at h
      · rename_i hg
        obtain rfl := Option.some.inj h
        unfold joinF
        rw [if_pos hg, if_neg (cutF_ne 44 w), join_cut]
      · cases h
end Go.Proofs.YtialapjchamkfaaDoor

/- The reference's cut. -/
namespace Go.Proofs.YtialapjchamkfaaDoor
open Go Go.Proofs Go.Ua Go.Extern
set_option linter.unusedVariables false
set_option linter.unusedSimpArgs false

theorem l_cutS {F : Fam} (hF : F = Fam.real) {s : List UInt8} {i j : Nat} {iv jv : Int} (hi : iv = i) (hj : jv = j) (h1 : i ≤ j) (h2 : j ≤ s.length) : F .cutS s iv jv = some ((s.take j).drop i) := by
  subst hF; subst hi; subst hj
  show cutI s (i : Int) (j : Int) = _
  unfold cutI
  rw [if_pos ⟨by omega, by omega, by omega⟩]
  simp

theorem Cut_spec (s : List UInt8) (c : UInt8) (hs : s.length < 4294967296) : ESpec Tryd.prog 34 [.d (.s (.str s)), .d (.s (.int .u8 c.toNat))] (fun x => x = .d (.view 1 (strDs (cutF c s)))) := by
  obtain ⟨z, hz⟩ : ∃ z, z = strDs (cutF c s) := ⟨_, rfl⟩
  obtain ⟨cv, hcv⟩ : ∃ z : Int, z = c.toNat := ⟨_, rfl⟩
  rw [← hz, ← hcv]
  refine ESpec.enter Tryd.func34 (by kernel_rfl) rfl (Nat.le_of_ble_eq_true rfl) fun hok cx hnt hfr => ?_
  obtain ⟨F, hF⟩ := real_ex
  refine AK.run hF tabOK hnt ?_
  conv => arg 4; cbv
  refine AKp.asRow 5 9 1 (by decide) rfl ?_
  conv => arg 4; arg 2; cbv
  refine AKp.enterLoop 5 ?_
  conv => arg 7; cbv
  refine AKl.inv hF tabOK hnt hfr (fun n vs hs' => ∃ (i j : Nat) (iv jv : Int) (out : List (List UInt8)) (es : List Dat), i + n = s.length ∧ iv = i ∧ jv = j ∧ j ≤ i ∧ out.length ≤ j ∧ cutF c s = out ++ cutF c (s.drop j) ∧ c ∉ (s.take i).drop j ∧ es = strDs out ∧
      vs = [(7, .d (.s (.int .i64 iv))), (6, .d (.s (.int .i64 jv))), (5, .row 0 1)] ∧ hs' = [(0, .ds 9 1 es)]) s.length
    ⟨0, 0, _, _, [], [], by omega, rfl, rfl, by omega, by simp, by simp, by simp, rfl, rfl, rfl⟩ (by repeat (first | exact True.intro | refine ⟨⟨rfl, rfl⟩, ?_⟩)) (by repeat (first | exact True.intro | refine ⟨⟨rfl, rfl, rfl⟩, ?_⟩)) ?_
  rintro J n vs hs' hJ ⟨i, j, iv, jv, out, es, hi, hiv, hjv, hji, hol, hcut, hno, hes, rfl, rfl⟩
  have hesl : es.length = out.length := by rw [hes]; simp [strDs]
  conv => arg 4; cbv
  cases hb : F .ltI iv (F .lenS s)
  case' false =>
    have hlt := ltI0 hF hb
    rw [l_lenS hF] at hlt
    have hil : i = s.length := by omega
    have hcs := l_cutS hF (s := s) (iv := jv) (jv := F .lenS s) (i := j) (j := s.length) hjv (by rw [l_lenS hF]) (by omega) (by omega)
    rw [List.take_length] at hcs
    obtain ⟨p, hp⟩ : ∃ p, p = s.drop j := ⟨_, rfl⟩
    rw [← hp] at hcs
    rw [hil, List.take_length, ← hp] at hno
    rw [← hp, cutF_none hno] at hcut
    have hap : F .appD es [.s (.str p)] = es ++ [.s (.str p)] := by rw [hF]; rfl
    have hft : F .fits 16 (F .appD es [.s (.str p)]) = true := by rw [hap, hF]; exact decide_eq_true (by simp; omega)
    have hzz : F .appD es [.s (.str p)] = z := by rw [hap, hz, hcut, hes]; simp [strDs]
    conv => arg 4; cbv
    rw [hcs]
    conv => arg 4; cbv
    rw [hft]
    conv => arg 4; cbv
    rw [hzz]
    refine AKp.freeze 2 rfl ?_
    conv => arg 4; arg 2; cbv
    exact AKp.doneE tabOK hfr (by rfl) (by rfl)
  case' true =>
    have hlt := ltI1 hF hb
    rw [l_lenS hF] at hlt
    obtain ⟨x, hx⟩ : ∃ c, s[i]? = some c := ⟨_, List.getElem?_eq_getElem (by omega)⟩
    have hg := l_getS hF hx hiv
    obtain ⟨xv, hxv⟩ : ∃ z : Int, z = x.toNat := ⟨_, rfl⟩
    rw [← hxv] at hg
    conv => arg 4; cbv
    rw [hg]
    conv => arg 4; cbv
    cases h5 : F .eqI xv cv
    case' false =>
      have h5' := eqI0 hF h5
      conv => arg 4; cbv
      refine AKp.again _ hfr (by repeat (first | exact True.intro | refine ⟨⟨rfl, rfl⟩, ?_⟩)) (by repeat (first | exact True.intro | refine ⟨⟨rfl, rfl, rfl⟩, ?_⟩)) (hJ (n - 1) _ _ (by omega) ⟨i + 1, j, _, jv, out, es, by omega, inc_i hF hiv (by omega), hjv, by omega, hol, hcut, ?_, hes, rfl, rfl⟩)
      rw [List.take_add_one, hx, List.drop_append]
      simp only [Option.toList_some, List.mem_append, not_or]
      refine ⟨hno, fun hm => h5' ?_⟩
      have := List.mem_of_mem_drop hm
      obtain rfl := List.mem_singleton.1 this
      rw [hxv, hcv]
    case' true =>
      have h5' := eqI1 hF h5
      have hcs := l_cutS hF (s := s) hjv hiv hji (by omega)
      conv => arg 4; cbv
      obtain ⟨p, hp⟩ : ∃ p, p = (s.take i).drop j := ⟨_, rfl⟩
      rw [← hp] at hcs hno
      have hxc : x = c := UInt8.toNat_inj.1 (by rw [hxv, hcv] at h5'; omega)
      have hsd : s.drop j = p ++ c :: s.drop (i + 1) := by
        have h6 : s.drop i = c :: s.drop (i + 1) := by
          rw [List.drop_eq_getElem_cons (by omega)]
          have : s[i] = c := by rw [List.getElem?_eq_getElem (by omega)] at hx; rw [← hxc]; exact Option.some.inj hx
          rw [this]
        have h7 : s.drop j = (s.take i ++ s.drop i).drop j := by rw [List.take_append_drop]
        rw [h7, List.drop_append_of_le_length (by simp; omega), h6, ← hp]
      have hap : F .appD es [.s (.str p)] = es ++ [.s (.str p)] := by rw [hF]; rfl
      have hft : F .fits 16 (F .appD es [.s (.str p)]) = true := by rw [hap, hF]; exact decide_eq_true (by simp; omega)
      rw [hcs]
      conv => arg 4; cbv
      rw [hft]
      conv => arg 4; cbv
      rw [hap]
      refine AKp.againR [(0, 2)] _ hfr (by repeat (first | exact True.intro | refine ⟨⟨rfl, rfl⟩, ?_⟩)) (by repeat (first | exact True.intro | refine ⟨⟨Nat.le_of_ble_eq_true rfl, rfl, rfl⟩, ?_⟩)) rfl (hJ (n - 1) _ _ (by omega) ⟨i + 1, i + 1, _, _, out ++ [p], es ++ [.s (.str p)], by omega, inc_i hF hiv (by omega), inc_i hF hiv (by omega), Nat.le_refl _, by simp; omega, ?_, by simp, by rw [hes]; simp [strDs], rfl, rfl⟩)
      rw [hcut, hsd, cut_append _ hno]
      simp
end Go.Proofs.YtialapjchamkfaaDoor

/- The reference's lines. -/
namespace Go.Proofs.YtialapjchamkfaaDoor
open Go Go.Proofs Go.Ua Go.Extern
set_option linter.unusedVariables false
set_option linter.unusedSimpArgs false

theorem RefLines_spec (s : List UInt8) (hs : s.length < 4294967281) : ESpec Tryd.prog 14 [.d (.s (.str s))] (fun x => x = .d (.view 1 (strDs (linesF s)))) := by
  have sp := Cut_spec s 10 (by omega)
  have hl1 := cutF_len 10 s
  have hcl := List.count_le_length (a := (10 : UInt8)) (l := s)
  rw [show (((10 : UInt8).toNat : Nat) : Int) = 10 from rfl] at sp
  obtain ⟨es, hes⟩ : ∃ z, z = strDs (cutF 10 s) := ⟨_, rfl⟩
  rw [← hes] at sp
  obtain ⟨z, hz⟩ : ∃ z, z = strDs (linesF s) := ⟨_, rfl⟩
  rw [← hz]
  refine ESpec.enter Tryd.func14 (by kernel_rfl) rfl (Nat.le_of_ble_eq_true rfl) fun hok cx hnt hfr => ?_
  obtain ⟨F, hF⟩ := real_ex
  refine AK.run hF tabOK hnt ?_
  conv => arg 4; cbv
  have hne : es ≠ [] := by rw [hes]; simpa [strDs] using cutF_ne 10 s
  have hel : es.length = (cutF 10 s).length := by rw [hes]; simp [strDs]
  have h1 : 1 ≤ es.length := by
    cases es with
    | nil => exact absurd rfl hne
    | cons _ _ => simp
  obtain ⟨iv, hiv⟩ : ∃ z, z = F .wrap .i64 (F .sub (F .lenD es) 1) := ⟨_, rfl⟩
  have hiv' : iv = ((es.length - 1 : Nat) : Int) := by
    rw [hiv, hF]
    show IntKind.i64.wrap ((es.length : Int) - 1) = _
    rw [w_i64 (by omega) (by omega)]
    omega
  obtain ⟨p, hp⟩ : ∃ p, (cutF 10 s)[es.length - 1]? = some p := ⟨_, List.getElem?_eq_getElem (by omega)⟩
  have hlast : (cutF 10 s).getLastD [] = p := by
    rw [List.getLastD_eq_getLast?, List.getLast?_eq_getElem?, ← hel, hp]; rfl
  have hg : F .getD es iv = some (.s (.str p)) := l_getD hF (i := es.length - 1) (by rw [hes]; rw [hes] at hp; exact strDs_get hp) hiv'
  refine AKp.call hF tabOK hnt sp rfl rfl rfl rfl rfl rfl rfl (by repeat' first | exact .refl _ | constructor) ?_
  rintro _ rfl
  conv => arg 4; cbv
  rw [← hiv, hg]
  conv => arg 4; cbv
  cases hb : F .eqS p []
  case' true =>
    have hb' := eqS1 hF hb
    have hzz : z = es.take (es.length - 1) := by
      rw [hz, linesF, if_pos (by rw [hlast, hb'])]
      rw [List.dropLast_eq_take, hes]
      simp [strDs]
    conv => arg 4; cbv
    rw [← hiv, l_cutD0 hF hiv' (by omega), ← hzz]
    conv => arg 4; cbv
    exact AKp.doneE tabOK hfr (by rfl) (by rfl)
  case' false =>
    have hb' := eqS0 hF hb
    conv => arg 4; cbv
    rw [show es = z by rw [hz, linesF, if_neg (by rw [hlast]; exact hb'), hes]]
    exact AKp.doneE tabOK hfr (by rfl) (by rfl)
end Go.Proofs.YtialapjchamkfaaDoor

/- The reference's words. -/
namespace Go.Proofs.YtialapjchamkfaaDoor
open Go Go.Proofs Go.Ua Go.Extern
set_option linter.unusedVariables false
set_option linter.unusedSimpArgs false

def wordsF (s : List UInt8) : List (List UInt8) := (cutF 32 s).filter fun p => !(p == [])

theorem RefWords_spec (s : List UInt8) (hs : s.length < 4294967296) : ESpec Tryd.prog 16 [.d (.s (.str s))] (fun x => x = .d (.view 1 (strDs (wordsF s)))) := by
  have sp := Cut_spec s 32 hs
  rw [show (((32 : UInt8).toNat : Nat) : Int) = 32 from rfl] at sp
  obtain ⟨l, hl⟩ : ∃ l, l = cutF 32 s := ⟨_, rfl⟩
  have hll : l.length ≤ 4294967296 := by
    rw [hl, cutF_len]
    have := List.count_le_length (a := (32 : UInt8)) (l := s)
    omega
  obtain ⟨ea, hea⟩ : ∃ z, z = strDs l := ⟨_, rfl⟩
  have hel : ea.length = l.length := by rw [hea]; simp [strDs]
  rw [← hl, ← hea] at sp
  obtain ⟨z, hz⟩ : ∃ z, z = strDs (wordsF s) := ⟨_, rfl⟩
  have hzl : z = strDs (l.filter fun p => !(p == [])) := by rw [hz, wordsF, hl]
  rw [← hz]
  refine ESpec.enter Tryd.func16 (by kernel_rfl) rfl (Nat.le_of_ble_eq_true rfl) fun hok cx hnt hfr => ?_
  obtain ⟨F, hF⟩ := real_ex
  refine AK.run hF tabOK hnt ?_
  conv => arg 4; cbv
  refine AKp.call hF tabOK hnt sp rfl rfl rfl rfl rfl rfl rfl (by repeat' first | exact .refl _ | constructor) ?_
  rintro _ rfl
  conv => arg 4; cbv
  refine AKp.asRow 4 9 1 (by decide) rfl ?_
  conv => arg 4; arg 2; cbv
  refine AKp.enterLoop 4 ?_
  conv => arg 7; cbv
  refine AKl.inv hF tabOK hnt hfr (fun n vs hs' => ∃ (i : Nat) (iv : Int) (out : List (List UInt8)) (es : List Dat), i + n = l.length ∧ iv = i ∧ out.length ≤ i ∧ out = (l.take i).filter (fun p => !(p == [])) ∧ es = strDs out ∧
      vs = [(5, .d (.s (.int .i64 iv))), (4, .row 0 1)] ∧ hs' = [(0, .ds 9 1 es)]) l.length
    ⟨0, _, [], [], by omega, rfl, by simp, by simp, rfl, rfl, rfl⟩ (by repeat (first | exact True.intro | refine ⟨⟨rfl, rfl⟩, ?_⟩)) (by repeat (first | exact True.intro | refine ⟨⟨rfl, rfl, rfl⟩, ?_⟩)) ?_
  rintro J n vs hs' hJ ⟨i, iv, out, es, hi, hiv, hol, hout, hes, rfl, rfl⟩
  have hesl : es.length = out.length := by rw [hes]; simp [strDs]
  conv => arg 4; cbv
  cases hb : F .ltI iv (F .lenD ea)
  case' false =>
    have hlt := ltI0 hF hb
    rw [l_lenD hF] at hlt
    rw [List.take_of_length_le (by omega)] at hout
    conv => arg 4; cbv
    rw [show es = z by rw [hes, hout, hzl]]
    refine AKp.freeze 0 rfl ?_
    conv => arg 4; arg 2; cbv
    exact AKp.doneE tabOK hfr (by rfl) (by rfl)
  case' true =>
    have hlt := ltI1 hF hb
    rw [l_lenD hF] at hlt
    obtain ⟨p, hp⟩ : ∃ c, l[i]? = some c := ⟨_, List.getElem?_eq_getElem (by omega)⟩
    have hg : F .getD ea iv = some (.s (.str p)) := l_getD hF (i := i) (by rw [hea]; exact strDs_get hp) hiv
    have htk : (l.take (i + 1)).filter (fun p => !(p == [])) = out ++ [p].filter (fun p => !(p == [])) := by rw [List.take_add_one, hp, List.filter_append, hout]; rfl
    conv => arg 4; cbv
    rw [hg]
    conv => arg 4; cbv
    cases h5 : F .eqS p []
    case' true =>
      have h5' := eqS1 hF h5
      rw [l_not1 hF]
      conv => arg 4; cbv
      exact AKp.again _ hfr (by repeat (first | exact True.intro | refine ⟨⟨rfl, rfl⟩, ?_⟩)) (by repeat (first | exact True.intro | refine ⟨⟨rfl, rfl, rfl⟩, ?_⟩)) (hJ (n - 1) _ _ (by omega) ⟨i + 1, _, out, es, by omega, inc_i hF hiv (by omega), by omega, by rw [htk, h5']; simp, hes, rfl, rfl⟩)
    case' false =>
      have h5' := eqS0 hF h5
      have hap : F .appD es [.s (.str p)] = es ++ [.s (.str p)] := by rw [hF]; rfl
      have hft : F .fits 16 (F .appD es [.s (.str p)]) = true := by rw [hap, hF]; exact decide_eq_true (by simp; omega)
      rw [l_not0 hF]
      conv => arg 4; cbv
      rw [hg]
      conv => arg 4; cbv
      rw [hft]
      conv => arg 4; cbv
      rw [hap]
      exact AKp.againR [(0, 2)] _ hfr (by repeat (first | exact True.intro | refine ⟨⟨rfl, rfl⟩, ?_⟩)) (by repeat (first | exact True.intro | refine ⟨⟨Nat.le_of_ble_eq_true rfl, rfl, rfl⟩, ?_⟩)) rfl (hJ (n - 1) _ _ (by omega) ⟨i + 1, _, out ++ [p], es ++ [.s (.str p)], by omega, inc_i hF hiv (by omega), by simp; omega, by rw [htk]; simp [h5'], by rw [hes]; simp [strDs], rfl, rfl⟩)
end Go.Proofs.YtialapjchamkfaaDoor

/- words.Digits at any int. -/
namespace Go.Proofs.YtialapjchamkfaaDoor
open Go Go.Proofs Go.Ua Go.Extern
set_option linter.unusedVariables false

theorem DigitsI_spec (n : Int) : ESpec Tryd.prog 20 [.d (.s (.int .i64 n))] (fun x => x = .d (.s (.str (Lib.decDigits n.toNat)))) := by
  have si := Itoa_spec (n.toNat : Int)
  rw [itoa_nat] at si
  obtain ⟨D, hD⟩ : ∃ z, z = Lib.decDigits n.toNat := ⟨_, rfl⟩
  obtain ⟨nv, hnv⟩ : ∃ z, z = (n.toNat : Int) := ⟨_, rfl⟩
  rw [← hD] at si ⊢
  rw [← hnv] at si
  refine ESpec.enter Tryd.func20 (by kernel_rfl) rfl (Nat.le_of_ble_eq_true rfl) fun _ cx hnt hfr => ?_
  obtain ⟨F, hF⟩ := real_ex
  refine AK.run hF tabOK hnt ?_
  conv => arg 4; cbv
  rw [show F .max n 0 = nv by
    rw [hF, hnv]
    show (if 0 > n then (0 : Int) else n) = _
    split <;> omega]
  refine AKp.call hF tabOK hnt si rfl rfl rfl rfl rfl rfl rfl (by repeat' first | exact .refl _ | constructor) ?_
  rintro _ rfl
  conv => arg 4; cbv
  exact AKp.doneE tabOK hfr (by rfl) (by rfl)
end Go.Proofs.YtialapjchamkfaaDoor

/- Are two lists the same? -/
namespace Go.Proofs.YtialapjchamkfaaDoor
open Go Go.Proofs Go.Ua Go.Extern
set_option linter.unusedVariables false
set_option linter.unusedSimpArgs false

theorem Same_spec (a b : List (List UInt8)) : ESpec Tryd.prog 12 [.d (.view 1 (strDs a)), .d (.view 1 (strDs b))] (fun x => x = .d (.s (.bool (decide (a = b))))) := by
  obtain ⟨z, hz⟩ : ∃ z, z = decide (a = b) := ⟨_, rfl⟩
  obtain ⟨ea, hea⟩ : ∃ z, z = strDs a := ⟨_, rfl⟩
  obtain ⟨eb, heb⟩ : ∃ z, z = strDs b := ⟨_, rfl⟩
  have hla : ea.length = a.length := by rw [hea]; simp [strDs]
  have hlb : eb.length = b.length := by rw [heb]; simp [strDs]
  rw [← hz, ← hea, ← heb]
  refine ESpec.enter Tryd.func12 (by kernel_rfl) rfl (Nat.le_of_ble_eq_true rfl) fun hok cx hnt hfr => ?_
  have hml : ea.length ≤ maxLen := hok.1.1
  have hm : maxLen = 9223372036854775807 := by decide
  obtain ⟨F, hF⟩ := real_ex
  refine AK.run hF tabOK hnt ?_
  conv => arg 4; cbv
  cases h1 : F .eqI (F .lenD ea) (F .lenD eb)
  case' false =>
    have h1' := eqI0 hF h1
    rw [l_lenD hF, l_lenD hF] at h1'
    rw [l_not0 hF]
    conv => arg 4; cbv
    rw [show z = false by rw [hz]; exact decide_eq_false (by rintro rfl; exact h1' (by rw [hla, hlb]))]
    exact AKp.doneE tabOK hfr (by rfl) (by rfl)
  case' true =>
  have h1' := eqI1 hF h1
  rw [l_lenD hF, l_lenD hF] at h1'
  rw [l_not1 hF]
  conv => arg 4; cbv
  refine AKp.enterLoop 5 ?_
  conv => arg 7; cbv
  refine AKl.inv hF tabOK hnt hfr (fun n vs hs => ∃ (i : Nat) (iv : Int), i + n = a.length ∧ iv = i ∧ a.take i = b.take i ∧ vs = [(5, .d (.s (.int .i64 iv)))] ∧ hs = []) a.length
    ⟨0, _, by omega, rfl, by simp, rfl, rfl⟩ (by repeat (first | exact True.intro | refine ⟨⟨rfl, rfl⟩, ?_⟩)) (by repeat (first | exact True.intro | refine ⟨⟨rfl, rfl, rfl⟩, ?_⟩)) ?_
  rintro J n vs hs hJ ⟨i, iv, hi, hiv, heq, rfl, rfl⟩
  conv => arg 4; cbv
  cases hb : F .ltI iv (F .lenD ea)
  case' false =>
    have hlt := ltI0 hF hb
    rw [l_lenD hF] at hlt
    conv => arg 4; cbv
    rw [show z = true by rw [hz]; exact decide_eq_true (by rwa [List.take_of_length_le (by omega), List.take_of_length_le (by omega)] at heq)]
    exact AKp.doneE tabOK hfr (by rfl) (by rfl)
  case' true =>
    have hlt := ltI1 hF hb
    rw [l_lenD hF] at hlt
    obtain ⟨x, hx⟩ : ∃ c, a[i]? = some c := ⟨_, List.getElem?_eq_getElem (by omega)⟩
    obtain ⟨y, hy⟩ : ∃ c, b[i]? = some c := ⟨_, List.getElem?_eq_getElem (by omega)⟩
    have hg1 : F .getD ea iv = some (.s (.str x)) := l_getD hF (i := i) (by rw [hea]; exact strDs_get hx) hiv
    have hg2 : F .getD eb iv = some (.s (.str y)) := l_getD hF (i := i) (by rw [heb]; exact strDs_get hy) hiv
    conv => arg 4; cbv
    refine AKp.drawn ?_
    refine DK.runV hF tabOK hnt hfr 0 ?_
    conv => arg 8; cbv
    rw [hg1]
    conv => arg 8; cbv
    rw [hg2]
    conv => arg 8; cbv
    refine DK.fin (by kernel_rfl) (by decide) ?_
    refine AK.run hF tabOK hnt ?_
    conv => arg 4; cbv
    cases h5 : F .eqS x y
    case' false =>
      have h5' := eqS0 hF h5
      rw [l_not0 hF]
      conv => arg 4; cbv
      rw [show z = false by rw [hz]; exact decide_eq_false (by rintro rfl; rw [hx] at hy; exact h5' (Option.some.inj hy))]
      exact AKp.doneE tabOK hfr (by rfl) (by rfl)
    case' true =>
      have h5' := eqS1 hF h5
      rw [l_not1 hF]
      conv => arg 4; cbv
      exact AKp.again _ hfr (by repeat (first | exact True.intro | refine ⟨⟨rfl, rfl⟩, ?_⟩)) (by repeat (first | exact True.intro | refine ⟨⟨rfl, rfl, rfl⟩, ?_⟩)) (hJ (n - 1) _ _ (by omega) ⟨i + 1, _, by omega, inc_i hF hiv (by omega), by rw [List.take_add_one, List.take_add_one, heq, hx, hy, h5'], rfl, rfl⟩)
end Go.Proofs.YtialapjchamkfaaDoor

/- WordsLists: the function returns true. -/
namespace Go.Proofs.YtialapjchamkfaaDoor
open Go Go.Proofs Go.Ua Go.Extern
set_option linter.unusedVariables false
set_option linter.unusedSimpArgs false

theorem WordsLists_spec (l : List (List UInt8)) (w : List UInt8) : ESpec Tryd.prog 8 [.d (.view 1 (strDs l)), .d (.s (.str w))] (fun x => x = .d (.s (.bool true))) := by
  have sj := Join_spec l
  have sl : joinF l ≠ [] → ESpec Tryd.prog 18 [.d (.s (.str (joinF l)))] (fun x => x = .tup [.d (.view 1 (strDs l)), .d (.s (.bool true))]) := fun h => by
    have := List_spec (joinF l)
    rw [list_join h] at this
    exact this
  have ss : ESpec Tryd.prog 12 [.d (.view 1 (strDs l)), .d (.view 1 (strDs l))] (fun x => x = .d (.s (.bool true))) := by
    have := Same_spec l l
    rw [decide_eq_true rfl] at this
    exact this
  obtain ⟨em, ok, s2, s3⟩ : ∃ (em : List Dat) (ok : Bool), ESpec Tryd.prog 18 [.d (.s (.str w))] (fun x => x = .tup [.d (.view 1 em), .d (.s (.bool ok))]) ∧ (ok = true → ESpec Tryd.prog 22 [.d (.view 1 em)] (fun x => x = .d (.s (.str w)))) := by
    have h := List_spec w
    cases hl : listF w with
    | none => rw [hl] at h; exact ⟨[], false, h, fun h => absurd h (by decide)⟩
    | some m =>
      rw [hl] at h
      have hj := Join_spec m
      rw [join_list hl] at hj
      exact ⟨strDs m, true, h, fun _ => hj⟩
  obtain ⟨es, hes⟩ : ∃ z, z = strDs l := ⟨_, rfl⟩
  obtain ⟨J, hJ⟩ : ∃ z, z = joinF l := ⟨_, rfl⟩
  rw [← hes, ← hJ] at sj sl
  rw [← hes] at ss ⊢
  refine ESpec.enter Tryd.func8 (by kernel_rfl) rfl (Nat.le_of_ble_eq_true rfl) fun hok cx hnt hfr => ?_
  obtain ⟨F, hF⟩ := real_ex
  refine AK.run hF tabOK hnt ?_
  conv => arg 4; cbv
  refine AKp.call hF tabOK hnt awake_spec rfl rfl rfl rfl rfl rfl rfl (by repeat' first | exact .refl _ | constructor) ?_
  rintro _ rfl
  conv => arg 4; cbv
  rw [l_not1 hF]
  conv => arg 4; cbv
  cases h1 : F .ltI 16384 (F .lenS w)
  case' true =>
    conv => arg 4; cbv
    exact AKp.doneE tabOK hfr (by rfl) (by rfl)
  case' false =>
  conv => arg 4; cbv
  cases h2 : F .ltI 64 (F .lenD es)
  case' true =>
    conv => arg 4; cbv
    exact AKp.doneE tabOK hfr (by rfl) (by rfl)
  case' false =>
  conv => arg 4; cbv
  refine AKp.call hF tabOK hnt sj rfl rfl rfl rfl rfl rfl rfl (by repeat' first | exact .refl _ | constructor) ?_
  rintro _ rfl
  conv => arg 4; cbv
  cases h3 : F .eqS J []
  case' false =>
    have sl := sl (eqS0 hF h3)
    rw [l_not0 hF]
    conv => arg 4; cbv
    refine AKp.call hF tabOK hnt sl rfl rfl rfl rfl rfl rfl rfl (by repeat' first | exact .refl _ | constructor) ?_
    rintro _ rfl
    conv => arg 4; cbv
    rw [l_not1 hF]
    conv => arg 4; cbv
    refine AKp.call hF tabOK hnt ss rfl rfl rfl rfl rfl rfl rfl (by repeat' first | exact .refl _ | constructor) ?_
    rintro _ rfl
    conv => arg 4; cbv
    rw [l_not1 hF]
  case' true =>
    rw [l_not1 hF]
  all_goals
    conv => arg 4; cbv
    refine AKp.call hF tabOK hnt s2 rfl rfl rfl rfl rfl rfl rfl (by repeat' first | exact .refl _ | constructor) ?_
    rintro _ rfl
    conv => arg 4; cbv
    cases ok
    case' false =>
      rw [l_not0 hF]
      conv => arg 4; cbv
      exact AKp.doneE tabOK hfr (by rfl) (by rfl)
    case' true =>
      have s3 := s3 rfl
      rw [l_not1 hF]
      conv => arg 4; cbv
      refine AKp.call hF tabOK hnt s3 rfl rfl rfl rfl rfl rfl rfl (by repeat' first | exact .refl _ | constructor) ?_
      rintro _ rfl
      conv => arg 4; cbv
      rw [show F .eqS w w = true by rw [l_eqS hF]; simp]
      conv => arg 4; cbv
      exact AKp.doneE tabOK hfr (by rfl) (by rfl)

theorem typed_strs {f : Nat} {l : List Dat} (h : typed tab (f + 2) 24 l) : ∃ zs, l = [.view 1 (strDs zs)] := by
  obtain ⟨es, rfl, hlen, hes⟩ := h
  clear hlen
  have : ∃ zs, es = strDs zs := by
    induction es with
    | nil => exact ⟨[], rfl⟩
    | cons x es ih =>
      obtain ⟨zs, rfl⟩ := ih fun x hx => hes x (List.mem_cons_of_mem _ hx)
      obtain ⟨l', rfl, s, rfl, _⟩ := hes x (by simp)
      exact ⟨s :: zs, rfl⟩
  obtain ⟨zs, rfl⟩ := this
  exact ⟨zs, rfl⟩
end Go.Proofs.YtialapjchamkfaaDoor

/- What is told of the functions walked so far, for trees of calls. -/
namespace Go.Proofs.YtialapjchamkfaaDoor
open Go Go.Proofs Go.Ua Go.Extern
set_option linter.unusedVariables false
set_option linter.unusedSimpArgs false
theorem hmix : Tryd.prog.follows .mixedOrders = true := by kernel_rfl
def φSmall (u : Int → Bool) : List AV → Option (Bool × AV)
  | [.d (.s (.int .u8 n))] => some (true, .d (.s (.bool (u n))))
  | _ => none
theorem φSmall_ok : SpOK Tryd.prog 43 (φSmall (smallN)) := by
  intro xs b x h hb
  unfold φSmall at h
  split at h
  · simp only [Option.some.injEq, Prod.mk.injEq] at h
    obtain ⟨rfl, rfl⟩ := h
    exact small_spec _
  · cases h
def φGreat (u : Int → Bool) : List AV → Option (Bool × AV)
  | [.d (.s (.int .u8 n))] => some (true, .d (.s (.bool (u n))))
  | _ => none
theorem φGreat_ok : SpOK Tryd.prog 45 (φGreat (greatN)) := by
  intro xs b x h hb
  unfold φGreat at h
  split at h
  · simp only [Option.some.injEq, Prod.mk.injEq] at h
    obtain ⟨rfl, rfl⟩ := h
    exact great_spec _
  · cases h
def φDigit (u : Int → Bool) : List AV → Option (Bool × AV)
  | [.d (.s (.int .u8 n))] => some (true, .d (.s (.bool (u n))))
  | _ => none
theorem φDigit_ok : SpOK Tryd.prog 44 (φDigit (digitN)) := by
  intro xs b x h hb
  unfold φDigit at h
  split at h
  · simp only [Option.some.injEq, Prod.mk.injEq] at h
    obtain ⟨rfl, rfl⟩ := h
    exact digit_spec _
  · cases h
def φWord (u : List UInt8 → Bool) : List AV → Option (Bool × AV)
  | [.d (.s (.str w))] => some (true, .d (.s (.bool (u w))))
  | _ => none
theorem φWord_ok : SpOK Tryd.prog 17 (φWord (wordF)) := by
  intro xs b x h hb
  unfold φWord at h
  split at h
  · simp only [Option.some.injEq, Prod.mk.injEq] at h
    obtain ⟨rfl, rfl⟩ := h
    exact Word_spec _
  · cases h
def φName (u : List UInt8 → Bool) : List AV → Option (Bool × AV)
  | [.d (.s (.str w))] => some (true, .d (.s (.bool (u w))))
  | _ => none
theorem φName_ok : SpOK Tryd.prog 19 (φName (nameF)) := by
  intro xs b x h hb
  unfold φName at h
  split at h
  · simp only [Option.some.injEq, Prod.mk.injEq] at h
    obtain ⟨rfl, rfl⟩ := h
    exact Name_spec _
  · cases h
theorem CutI_spec (s : List UInt8) (n : Int) (hs : s.length < 4294967296) : ESpec Tryd.prog 34 [.d (.s (.str s)), .d (.s (.int .u8 n))] (fun x => x = .d (.view 1 (strDs (cutF (UInt8.ofNat n.toNat) s)))) :=
  ESpec.ok (enters_of Tryd.func34 (by kernel_rfl) rfl) fun hok => by
    have := Cut_spec s (UInt8.ofNat n.toNat) hs
    rwa [u8_of hok.2.1] at this
theorem goodD_spec (es : List Dat) (h : isStrs es = true) : ESpec Tryd.prog 39 [.d (.view 1 es)] (fun x => x = .d (.s (.bool (goodF (unStr es))))) := by
  have := good_spec (unStr es)
  rwa [strDs_unStr h] at this
theorem JoinD_spec (es : List Dat) (h : isStrs es = true) : ESpec Tryd.prog 22 [.d (.view 1 es)] (fun x => x = .d (.s (.str (joinF (unStr es))))) := by
  have := Join_spec (unStr es)
  rwa [strDs_unStr h] at this
theorem SameD_spec (es ds : List Dat) (h : isStrs es = true) (h2 : isStrs ds = true) : ESpec Tryd.prog 12 [.d (.view 1 es), .d (.view 1 ds)] (fun x => x = .d (.s (.bool (decide (unStr es = unStr ds))))) := by
  have := Same_spec (unStr es) (unStr ds)
  rwa [strDs_unStr h, strDs_unStr h2] at this
def listV (w : List UInt8) : List Dat := strDs ((listF w).getD [])
def listB (w : List UInt8) : Bool := (listF w).isSome
theorem ListT_spec (w : List UInt8) : ESpec Tryd.prog 18 [.d (.s (.str w))] (fun x => x = .tup [.d (.view 1 (listV w)), .d (.s (.bool (listB w)))]) := by
  have := List_spec w
  unfold listV listB
  cases h : listF w <;> (rw [h] at this; exact this)
def numV (w : List UInt8) (a b : Int) : Int := (numberF w a b).getD 0
def numB (w : List UInt8) (a b : Int) : Bool := (numberF w a b).isSome
theorem NumberT_spec (w : List UInt8) (a b : Int) : ESpec Tryd.prog 26 [.d (.s (.str w)), .d (.s (.int .i64 a)), .d (.s (.int .i64 b))] (fun x => x = .tup [.d (.s (.int .i64 (numV w a b))), .d (.s (.bool (numB w a b)))]) := by
  have := Number_spec w a b
  unfold numV numB
  cases h : numberF w a b <;> (rw [h] at this; exact this)
def le32 (w : List UInt8) : Bool := decide (w.length < 4294967281)
def φCut (p : List UInt8 → Bool) (u : List UInt8 → Int → List Dat) : List AV → Option (Bool × AV)
  | [.d (.s (.str w)), .d (.s (.int .u8 n))] => some (p w, .d (.view 1 (u w n)))
  | _ => none
theorem φCut_ok : SpOK Tryd.prog 34 (φCut (le32) (fun w n => strDs (cutF (UInt8.ofNat n.toNat) w))) := by
  intro xs b x h hb
  unfold φCut at h
  split at h
  · simp only [Option.some.injEq, Prod.mk.injEq] at h
    obtain ⟨rfl, rfl⟩ := h
    exact CutI_spec _ _ (Nat.lt_trans (of_decide_eq_true hb) (by decide))
  · cases h
def φAwake  : List AV → Option (Bool × AV)
  | [] => some (true, .d (.s (.bool true)))
  | _ => none
theorem φAwake_ok : SpOK Tryd.prog 11 (φAwake ) := by
  intro xs b x h hb
  unfold φAwake at h
  split at h
  · simp only [Option.some.injEq, Prod.mk.injEq] at h
    obtain ⟨rfl, rfl⟩ := h
    exact awake_spec
  · cases h
def φGood (p u : List Dat → Bool) : List AV → Option (Bool × AV)
  | [.d (.view 1 l)] => some (p l, .d (.s (.bool (u l))))
  | _ => none
theorem φGood_ok : SpOK Tryd.prog 39 (φGood (isStrs) (fun l => goodF (unStr l))) := by
  intro xs b x h hb
  unfold φGood at h
  split at h
  · simp only [Option.some.injEq, Prod.mk.injEq] at h
    obtain ⟨rfl, rfl⟩ := h
    exact goodD_spec _ hb
  · cases h
def φJoin (p : List Dat → Bool) (u : List Dat → List UInt8) : List AV → Option (Bool × AV)
  | [.d (.view 1 l)] => some (p l, .d (.s (.str (u l))))
  | _ => none
theorem φJoin_ok : SpOK Tryd.prog 22 (φJoin (isStrs) (fun l => joinF (unStr l))) := by
  intro xs b x h hb
  unfold φJoin at h
  split at h
  · simp only [Option.some.injEq, Prod.mk.injEq] at h
    obtain ⟨rfl, rfl⟩ := h
    exact JoinD_spec _ hb
  · cases h
def φSame (p q : List Dat → List Dat → Bool) : List AV → Option (Bool × AV)
  | [.d (.view 1 l), .d (.view 1 m)] => some (p l m, .d (.s (.bool (q l m))))
  | _ => none
theorem φSame_ok : SpOK Tryd.prog 12 (φSame (fun l m => isStrs l && isStrs m) (fun l m => decide (unStr l = unStr m))) := by
  intro xs b x h hb
  unfold φSame at h
  split at h
  · simp only [Option.some.injEq, Prod.mk.injEq] at h
    obtain ⟨rfl, rfl⟩ := h
    simp only [Bool.and_eq_true] at hb; exact SameD_spec _ _ hb.1 hb.2
  · cases h
def φList (u : List UInt8 → List Dat) (v : List UInt8 → Bool) : List AV → Option (Bool × AV)
  | [.d (.s (.str w))] => some (true, .tup [.d (.view 1 (u w)), .d (.s (.bool (v w)))])
  | _ => none
theorem φList_ok : SpOK Tryd.prog 18 (φList (listV) (listB)) := by
  intro xs b x h hb
  unfold φList at h
  split at h
  · simp only [Option.some.injEq, Prod.mk.injEq] at h
    obtain ⟨rfl, rfl⟩ := h
    exact ListT_spec _
  · cases h
def φNumber (u : List UInt8 → Int → Int → Int) (v : List UInt8 → Int → Int → Bool) : List AV → Option (Bool × AV)
  | [.d (.s (.str w)), .d (.s (.int .i64 a)), .d (.s (.int .i64 b))] => some (true, .tup [.d (.s (.int .i64 (u w a b))), .d (.s (.bool (v w a b)))])
  | _ => none
theorem φNumber_ok : SpOK Tryd.prog 26 (φNumber (numV) (numB)) := by
  intro xs b x h hb
  unfold φNumber at h
  split at h
  · simp only [Option.some.injEq, Prod.mk.injEq] at h
    obtain ⟨rfl, rfl⟩ := h
    exact NumberT_spec _ _ _
  · cases h
def φLines (p : List UInt8 → Bool) (u : List UInt8 → List Dat) : List AV → Option (Bool × AV)
  | [.d (.s (.str w))] => some (p w, .d (.view 1 (u w)))
  | _ => none
theorem φLines_ok : SpOK Tryd.prog 13 (φLines (le32) (fun w => strDs (linesF w))) := by
  intro xs b x h hb
  unfold φLines at h
  split at h
  · simp only [Option.some.injEq, Prod.mk.injEq] at h
    obtain ⟨rfl, rfl⟩ := h
    exact Lines_spec _ (of_decide_eq_true hb)
  · cases h
def φRefLines (p : List UInt8 → Bool) (u : List UInt8 → List Dat) : List AV → Option (Bool × AV)
  | [.d (.s (.str w))] => some (p w, .d (.view 1 (u w)))
  | _ => none
theorem φRefLines_ok : SpOK Tryd.prog 14 (φRefLines (le32) (fun w => strDs (linesF w))) := by
  intro xs b x h hb
  unfold φRefLines at h
  split at h
  · simp only [Option.some.injEq, Prod.mk.injEq] at h
    obtain ⟨rfl, rfl⟩ := h
    exact RefLines_spec _ (of_decide_eq_true hb)
  · cases h
def φRefWords (p : List UInt8 → Bool) (u : List UInt8 → List Dat) : List AV → Option (Bool × AV)
  | [.d (.s (.str w))] => some (p w, .d (.view 1 (u w)))
  | _ => none
theorem φRefWords_ok : SpOK Tryd.prog 16 (φRefWords (le32) (fun w => strDs (wordsF w))) := by
  intro xs b x h hb
  unfold φRefWords at h
  split at h
  · simp only [Option.some.injEq, Prod.mk.injEq] at h
    obtain ⟨rfl, rfl⟩ := h
    exact RefWords_spec _ (Nat.lt_trans (of_decide_eq_true hb) (by decide))
  · cases h
def φDigits (u : Int → List UInt8) : List AV → Option (Bool × AV)
  | [.d (.s (.int .i64 n))] => some (true, .d (.s (.str (u n))))
  | _ => none
theorem φDigits_ok : SpOK Tryd.prog 20 (φDigits (fun n => Lib.decDigits n.toNat)) := by
  intro xs b x h hb
  unfold φDigits at h
  split at h
  · simp only [Option.some.injEq, Prod.mk.injEq] at h
    obtain ⟨rfl, rfl⟩ := h
    exact DigitsI_spec _
  · cases h
end Go.Proofs.YtialapjchamkfaaDoor

/- The reference's names and words. -/
namespace Go.Proofs.YtialapjchamkfaaDoor
open Go Go.Proofs Go.Ua Go.Extern
set_option linter.unusedVariables false
set_option linter.unusedSimpArgs false

theorem RefName_spec (w : List UInt8) : ESpec Tryd.prog 23 [.d (.s (.str w))] (fun x => x = .d (.s (.bool (nameF w)))) := by
  obtain ⟨uSmall, huSmall⟩ : ∃ u : Int → Bool, u = smallN := ⟨_, rfl⟩
  obtain ⟨uDigit, huDigit⟩ : ∃ u : Int → Bool, u = digitN := ⟨_, rfl⟩
  have hG : TblOK Tryd.prog [(43, φSmall uSmall), (44, φDigit uDigit)] := ⟨(by rw [huSmall]; exact φSmall_ok), (by rw [huDigit]; exact φDigit_ok), trivial⟩
  refine ESpec.enter Tryd.func23 (by kernel_rfl) rfl (Nat.le_of_ble_eq_true rfl) fun hok cx hnt hfr => ?_
  obtain ⟨F, hF⟩ := real_ex
  refine AK.runT hF tabOK hmix hnt hfr false _ hG ?_
  conv => arg 4; cbv
  have hwl : w.length ≤ maxLen := hok.1
  have hm : maxLen = 9223372036854775807 := by decide
  repeat' (first | with_reducible refine AKt.have ?_ | with_reducible refine AKt.tt ?_ | with_reducible refine AKt.ff ?_ | with_reducible refine AKt.yes (by assumption) ?_ | with_reducible refine AKt.no (by assumption) ?_ | with_reducible refine AKt.node (fun hb => ?_) (fun hb => ?_) | with_reducible refine AKt.need ?_ (fun hb => ?_) | with_reducible refine AKt.leaf ?_ | (with_reducible show _ = true; assumption))
  refine AKp.enterLoop 4 ?_
  conv => arg 7; cbv
  refine AKl.invT hF tabOK hmix hnt hfr false _ hG (fun n vs hs => ∃ (i : Nat) (iv : Int), i + n = w.length ∧ iv = i ∧ (w.take i).all nameB = true ∧ (∀ c, w[0]? = some c → 0 < i → smallN c.toNat = true) ∧ vs = [(3, .d (.s (.int .i64 iv)))] ∧ hs = []) w.length ⟨0, _, by omega, rfl, by simp, by simp, rfl, rfl⟩ (by repeat (first | exact True.intro | refine ⟨⟨rfl, rfl⟩, ?_⟩)) (by repeat (first | exact True.intro | refine ⟨⟨rfl, rfl, rfl⟩, ?_⟩)) ?_
  rintro J n vs hs hJ ⟨i, iv, hi, hiv, hall, hfi, rfl, rfl⟩
  conv => arg 4; cbv
  refine AKt.node (fun hb => ?_) (fun hb => ?_)
  · have hlt : i < w.length := by simp only [hF, f_ltI, f_leI, f_eqI, f_eqS, f_eqB, f_not, f_lenS, f_lenD, f_hasS, f_atS, f_hasC, f_subS, f_hasCat, f_app, f_wrap, f_add, f_sub, f_mul, f_appD, f_fits, f_hasV, f_subV, decide_eq_true_eq, decide_eq_false_iff_not, beq_iff_eq, beq_eq_false_iff_ne, Bool.and_eq_true, Bool.not_eq_true, Bool.not_eq_false, Bool.not_eq_eq_eq_not, Bool.not_true, Bool.not_false] at hb; omega
    obtain ⟨c, hc⟩ : ∃ c, w[i]? = some c := ⟨_, List.getElem?_eq_getElem hlt⟩
    rw [t_atS hF hc hiv]
    have hs := t_hasS hF hlt hiv
    have hu : nameB c = (uSmall c.toNat || uDigit c.toNat || decide ((c.toNat : Int) = 45)) := by rw [huSmall, huDigit]; rfl
    have hno := all_false (p := nameB) hc
    have hyes := all_take_succ (p := nameB) hc hall
    rw [← huSmall] at hfi
    repeat' (first | with_reducible refine AKt.have ?_ | with_reducible refine AKt.tt ?_ | with_reducible refine AKt.ff ?_ | with_reducible refine AKt.yes (by assumption) ?_ | with_reducible refine AKt.no (by assumption) ?_ | with_reducible refine AKt.node (fun hb => ?_) (fun hb => ?_) | with_reducible refine AKt.need ?_ (fun hb => ?_) | with_reducible refine AKt.leaf ?_ | (with_reducible show _ = true; assumption))
    all_goals first
      | refine AKp.again _ hfr (by repeat (first | exact True.intro | refine ⟨⟨rfl, rfl⟩, ?_⟩)) (by repeat (first | exact True.intro | refine ⟨⟨rfl, rfl, rfl⟩, ?_⟩)) (hJ (n - 1) _ _ (by omega) ⟨i + 1, _, by omega, inc_i hF hiv (by omega), ?_, ?_, rfl, rfl⟩)
        · apply hyes
          clear hJ hall hno hyes
          simp only [hF, f_ltI, f_leI, f_eqI, f_eqS, f_eqB, f_not, f_lenS, f_lenD, f_hasS, f_atS, f_hasC, f_subS, f_hasCat, f_app, f_wrap, f_add, f_sub, f_mul, f_appD, f_fits, f_hasV, f_subV, decide_eq_true_eq, decide_eq_false_iff_not, beq_iff_eq, beq_eq_false_iff_ne, Bool.and_eq_true, Bool.not_eq_true, Bool.not_eq_false, Bool.not_eq_eq_eq_not, Bool.not_true, Bool.not_false] at *
          grind
        · intro c' hc' _
          rw [← huSmall]
          clear hJ hall hno hyes
          simp only [hF, f_ltI, f_leI, f_eqI, f_eqS, f_eqB, f_not, f_lenS, f_lenD, f_hasS, f_atS, f_hasC, f_subS, f_hasCat, f_app, f_wrap, f_add, f_sub, f_mul, f_appD, f_fits, f_hasV, f_subV, decide_eq_true_eq, decide_eq_false_iff_not, beq_iff_eq, beq_eq_false_iff_ne, Bool.and_eq_true, Bool.not_eq_true, Bool.not_eq_false, Bool.not_eq_eq_eq_not, Bool.not_true, Bool.not_false] at *
          grind
      | refine AKp.doneE tabOK hfr (by rfl) ?_
        show _ = _
        simp only [tupAV]
        refine avb (Bool.eq_iff_iff.2 ?_)
        clear hJ hall hyes
        simp only [hF, f_ltI, f_leI, f_eqI, f_eqS, f_eqB, f_not, f_lenS, f_lenD, f_hasS, f_atS, f_hasC, f_subS, f_hasCat, f_app, f_wrap, f_add, f_sub, f_mul, f_appD, f_fits, f_hasV, f_subV, decide_eq_true_eq, decide_eq_false_iff_not, beq_iff_eq, beq_eq_false_iff_ne, Bool.and_eq_true, Bool.not_eq_true, Bool.not_eq_false, Bool.not_eq_eq_eq_not, Bool.not_true, Bool.not_false] at *
        unfold nameF
        subst huSmall huDigit
        grind
  · have hlt : ¬ i < w.length := by simp only [hF, f_ltI, f_leI, f_eqI, f_eqS, f_eqB, f_not, f_lenS, f_lenD, f_hasS, f_atS, f_hasC, f_subS, f_hasCat, f_app, f_wrap, f_add, f_sub, f_mul, f_appD, f_fits, f_hasV, f_subV, decide_eq_true_eq, decide_eq_false_iff_not, beq_iff_eq, beq_eq_false_iff_ne, Bool.and_eq_true, Bool.not_eq_true, Bool.not_eq_false, Bool.not_eq_eq_eq_not, Bool.not_true, Bool.not_false] at hb; omega
    have h1 : w.take i = w := List.take_of_length_le (by omega)
    rw [h1] at hall
    clear hb h1 hwl
    repeat' (first | with_reducible refine AKt.have ?_ | with_reducible refine AKt.tt ?_ | with_reducible refine AKt.ff ?_ | with_reducible refine AKt.yes (by assumption) ?_ | with_reducible refine AKt.no (by assumption) ?_ | with_reducible refine AKt.node (fun hb => ?_) (fun hb => ?_) | with_reducible refine AKt.need ?_ (fun hb => ?_) | with_reducible refine AKt.leaf ?_ | (with_reducible show _ = true; assumption))
    all_goals
      refine AKp.doneE tabOK hfr (by rfl) ?_
      show _ = _
      simp only [tupAV]
      refine avb (Bool.eq_iff_iff.2 ?_)
      clear hJ
      simp only [hF, f_ltI, f_leI, f_eqI, f_eqS, f_eqB, f_not, f_lenS, f_lenD, f_hasS, f_atS, f_hasC, f_subS, f_hasCat, f_app, f_wrap, f_add, f_sub, f_mul, f_appD, f_fits, f_hasV, f_subV, decide_eq_true_eq, decide_eq_false_iff_not, beq_iff_eq, beq_eq_false_iff_ne, Bool.and_eq_true, Bool.not_eq_true, Bool.not_eq_false, Bool.not_eq_eq_eq_not, Bool.not_true, Bool.not_false] at *
      cases w with
      | nil => simp [nameF] at *
      | cons a r =>
        have h2 := hfi a rfl (by simp at hlt; omega)
        subst huSmall huDigit
        simp only [nameF, h2, hall]
        clear hfi hi hiv h2 hall hlt hok
        grind

theorem wordB_eq (c : UInt8) : wordB c = (smallN c.toNat || digitN c.toNat || greatN c.toNat || decide ((c.toNat : Int) = 46) || decide ((c.toNat : Int) = 95) || decide ((c.toNat : Int) = 58) || decide ((c.toNat : Int) = 47) || decide ((c.toNat : Int) = 64) || decide ((c.toNat : Int) = 45)) := by
  have e : ∀ n : Nat, n < 256 → (marks.contains (UInt8.ofNat n)) = (decide ((n : Int) = 46) || decide ((n : Int) = 95) || decide ((n : Int) = 58) || decide ((n : Int) = 47) || decide ((n : Int) = 64) || decide ((n : Int) = 45)) := by decide +kernel
  have := e c.toNat (UInt8.toNat_lt c)
  rw [UInt8.ofNat_toNat] at this
  unfold wordB plainN
  rw [this]
  simp only [Bool.or_assoc]

set_option maxRecDepth 10000 in
theorem RefWord_spec (w : List UInt8) : ESpec Tryd.prog 24 [.d (.s (.str w))] (fun x => x = .d (.s (.bool (wordF w)))) := by
  obtain ⟨uSmall, huSmall⟩ : ∃ u : Int → Bool, u = smallN := ⟨_, rfl⟩
  obtain ⟨uGreat, huGreat⟩ : ∃ u : Int → Bool, u = greatN := ⟨_, rfl⟩
  obtain ⟨uDigit, huDigit⟩ : ∃ u : Int → Bool, u = digitN := ⟨_, rfl⟩
  have hG : TblOK Tryd.prog [(43, φSmall uSmall), (45, φGreat uGreat), (44, φDigit uDigit)] := ⟨(by rw [huSmall]; exact φSmall_ok), (by rw [huGreat]; exact φGreat_ok), (by rw [huDigit]; exact φDigit_ok), trivial⟩
  refine ESpec.enter Tryd.func24 (by kernel_rfl) rfl (Nat.le_of_ble_eq_true rfl) fun hok cx hnt hfr => ?_
  obtain ⟨F, hF⟩ := real_ex
  refine AK.runT hF tabOK hmix hnt hfr false _ hG ?_
  conv => arg 4; cbv
  have hwl : w.length ≤ maxLen := hok.1
  have hm : maxLen = 9223372036854775807 := by decide
  repeat' (first | with_reducible refine AKt.have ?_ | with_reducible refine AKt.tt ?_ | with_reducible refine AKt.ff ?_ | with_reducible refine AKt.yes (by assumption) ?_ | with_reducible refine AKt.no (by assumption) ?_ | with_reducible refine AKt.node (fun hb => ?_) (fun hb => ?_) | with_reducible refine AKt.need ?_ (fun hb => ?_) | with_reducible refine AKt.leaf ?_ | (with_reducible show _ = true; assumption))
  refine AKp.enterLoop 4 ?_
  conv => arg 7; cbv
  refine AKl.invT hF tabOK hmix hnt hfr false _ hG (fun n vs hs => ∃ (i : Nat) (iv : Int), i + n = w.length ∧ iv = i ∧ (w.take i).all wordB = true ∧ vs = [(3, .d (.s (.int .i64 iv)))] ∧ hs = []) w.length ⟨0, _, by omega, rfl, by simp, rfl, rfl⟩ (by repeat (first | exact True.intro | refine ⟨⟨rfl, rfl⟩, ?_⟩)) (by repeat (first | exact True.intro | refine ⟨⟨rfl, rfl, rfl⟩, ?_⟩)) ?_
  rintro J n vs hs hJ ⟨i, iv, hi, hiv, hall, rfl, rfl⟩
  conv => arg 4; cbv
  refine AKt.node (fun hb => ?_) (fun hb => ?_)
  · have hlt : i < w.length := by simp only [hF, f_ltI, f_leI, f_eqI, f_eqS, f_eqB, f_not, f_lenS, f_lenD, f_hasS, f_atS, f_hasC, f_subS, f_hasCat, f_app, f_wrap, f_add, f_sub, f_mul, f_appD, f_fits, f_hasV, f_subV, decide_eq_true_eq, decide_eq_false_iff_not, beq_iff_eq, beq_eq_false_iff_ne, Bool.and_eq_true, Bool.not_eq_true, Bool.not_eq_false, Bool.not_eq_eq_eq_not, Bool.not_true, Bool.not_false] at hb; omega
    obtain ⟨c, hc⟩ : ∃ c, w[i]? = some c := ⟨_, List.getElem?_eq_getElem hlt⟩
    rw [t_atS hF hc hiv]
    have hs := t_hasS hF hlt hiv
    have hu : wordB c = (uSmall c.toNat || uDigit c.toNat || uGreat c.toNat || decide ((c.toNat : Int) = 46) || decide ((c.toNat : Int) = 95) || decide ((c.toNat : Int) = 58) || decide ((c.toNat : Int) = 47) || decide ((c.toNat : Int) = 64) || decide ((c.toNat : Int) = 45)) := by
      rw [huSmall, huDigit, huGreat]
      exact wordB_eq c
    have hno := all_false (p := wordB) hc
    have hyes := all_take_succ (p := wordB) hc hall
    repeat' (first | with_reducible refine AKt.have ?_ | with_reducible refine AKt.tt ?_ | with_reducible refine AKt.ff ?_ | with_reducible refine AKt.yes (by assumption) ?_ | with_reducible refine AKt.no (by assumption) ?_ | with_reducible refine AKt.node (fun hb => ?_) (fun hb => ?_) | with_reducible refine AKt.need ?_ (fun hb => ?_) | with_reducible refine AKt.leaf ?_ | (with_reducible show _ = true; assumption))
    all_goals first
      | refine AKp.again _ hfr (by repeat (first | exact True.intro | refine ⟨⟨rfl, rfl⟩, ?_⟩)) (by repeat (first | exact True.intro | refine ⟨⟨rfl, rfl, rfl⟩, ?_⟩)) (hJ (n - 1) _ _ (by omega) ⟨i + 1, _, by omega, inc_i hF hiv (by omega), ?_, rfl, rfl⟩)
        apply hyes
        clear hJ hall hno hyes
        simp only [hF, f_ltI, f_leI, f_eqI, f_eqS, f_eqB, f_not, f_lenS, f_lenD, f_hasS, f_atS, f_hasC, f_subS, f_hasCat, f_app, f_wrap, f_add, f_sub, f_mul, f_appD, f_fits, f_hasV, f_subV, decide_eq_true_eq, decide_eq_false_iff_not, beq_iff_eq, beq_eq_false_iff_ne, Bool.and_eq_true, Bool.not_eq_true, Bool.not_eq_false, Bool.not_eq_eq_eq_not, Bool.not_true, Bool.not_false] at *
        grind
      | refine AKp.doneE tabOK hfr (by rfl) ?_
        show _ = _
        simp only [tupAV]
        refine avb (Bool.eq_iff_iff.2 ?_)
        clear hJ hall hyes
        simp only [hF, f_ltI, f_leI, f_eqI, f_eqS, f_eqB, f_not, f_lenS, f_lenD, f_hasS, f_atS, f_hasC, f_subS, f_hasCat, f_app, f_wrap, f_add, f_sub, f_mul, f_appD, f_fits, f_hasV, f_subV, decide_eq_true_eq, decide_eq_false_iff_not, beq_iff_eq, beq_eq_false_iff_ne, Bool.and_eq_true, Bool.not_eq_true, Bool.not_eq_false, Bool.not_eq_eq_eq_not, Bool.not_true, Bool.not_false] at *
        unfold wordF
        grind
  · have hlt : ¬ i < w.length := by simp only [hF, f_ltI, f_leI, f_eqI, f_eqS, f_eqB, f_not, f_lenS, f_lenD, f_hasS, f_atS, f_hasC, f_subS, f_hasCat, f_app, f_wrap, f_add, f_sub, f_mul, f_appD, f_fits, f_hasV, f_subV, decide_eq_true_eq, decide_eq_false_iff_not, beq_iff_eq, beq_eq_false_iff_ne, Bool.and_eq_true, Bool.not_eq_true, Bool.not_eq_false, Bool.not_eq_eq_eq_not, Bool.not_true, Bool.not_false] at hb; omega
    have h1 : w.take i = w := List.take_of_length_le (by omega)
    rw [h1] at hall
    clear hb h1 hwl
    repeat' (first | with_reducible refine AKt.have ?_ | with_reducible refine AKt.tt ?_ | with_reducible refine AKt.ff ?_ | with_reducible refine AKt.yes (by assumption) ?_ | with_reducible refine AKt.no (by assumption) ?_ | with_reducible refine AKt.node (fun hb => ?_) (fun hb => ?_) | with_reducible refine AKt.need ?_ (fun hb => ?_) | with_reducible refine AKt.leaf ?_ | (with_reducible show _ = true; assumption))
    all_goals
      refine AKp.doneE tabOK hfr (by rfl) ?_
      show _ = _
      simp only [tupAV]
      refine avb (Bool.eq_iff_iff.2 ?_)
      clear hJ
      simp only [hF, f_ltI, f_leI, f_eqI, f_eqS, f_eqB, f_not, f_lenS, f_lenD, f_hasS, f_atS, f_hasC, f_subS, f_hasCat, f_app, f_wrap, f_add, f_sub, f_mul, f_appD, f_fits, f_hasV, f_subV, decide_eq_true_eq, decide_eq_false_iff_not, beq_iff_eq, beq_eq_false_iff_ne, Bool.and_eq_true, Bool.not_eq_true, Bool.not_eq_false, Bool.not_eq_eq_eq_not, Bool.not_true, Bool.not_false] at *
      unfold wordF
      clear hi hiv hok hlt
      cases w <;> grind
def φRefName (u : List UInt8 → Bool) : List AV → Option (Bool × AV)
  | [.d (.s (.str w))] => some (true, .d (.s (.bool (u w))))
  | _ => none
theorem φRefName_ok : SpOK Tryd.prog 23 (φRefName (nameF)) := by
  intro xs b x h hb
  unfold φRefName at h
  split at h
  · simp only [Option.some.injEq, Prod.mk.injEq] at h
    obtain ⟨rfl, rfl⟩ := h
    exact RefName_spec _
  · cases h
def φRefWord (u : List UInt8 → Bool) : List AV → Option (Bool × AV)
  | [.d (.s (.str w))] => some (true, .d (.s (.bool (u w))))
  | _ => none
theorem φRefWord_ok : SpOK Tryd.prog 24 (φRefWord (wordF)) := by
  intro xs b x h hb
  unfold φRefWord at h
  split at h
  · simp only [Option.some.injEq, Prod.mk.injEq] at h
    obtain ⟨rfl, rfl⟩ := h
    exact RefWord_spec _
  · cases h
end Go.Proofs.YtialapjchamkfaaDoor

/- The reference's lists. -/
namespace Go.Proofs.YtialapjchamkfaaDoor
open Go Go.Proofs Go.Ua Go.Extern
set_option linter.unusedVariables false
set_option linter.unusedSimpArgs false

set_option maxRecDepth 10000 in
theorem RefGood_spec (l : List (List UInt8)) : ESpec Tryd.prog 41 [.d (.view 1 (strDs l))] (fun x => x = .d (.s (.bool (goodF l)))) := by
  obtain ⟨uRefWord, huRefWord⟩ : ∃ u : List UInt8 → Bool, u = wordF := ⟨_, rfl⟩
  have hG : TblOK Tryd.prog [(24, φRefWord uRefWord)] := ⟨(by rw [huRefWord]; exact φRefWord_ok), trivial⟩
  obtain ⟨es, hes⟩ : ∃ z, z = strDs l := ⟨_, rfl⟩
  rw [← hes]
  have hel : es.length = l.length := by rw [hes]; simp [strDs]
  refine ESpec.enter Tryd.func41 (by kernel_rfl) rfl (Nat.le_of_ble_eq_true rfl) fun hok cx hnt hfr => ?_
  obtain ⟨F, hF⟩ := real_ex
  refine AK.runT hF tabOK hmix hnt hfr false _ hG ?_
  conv => arg 4; cbv
  have hml : es.length ≤ maxLen := hok.1.1
  have hm : maxLen = 9223372036854775807 := by decide
  have h0 : F .strA es 0 0 = l.headD [] := by
    cases l with
    | nil => subst hF; rw [hes]; rfl
    | cons a r => rw [hes]; exact t_str0 hF (i := 0) rfl rfl
  have n0 : F .eqI (F .lenD es) 1 = true → F .hasD es 0 [.str] = true := fun h => by
    simp only [hF, f_ltI, f_leI, f_eqI, f_eqS, f_eqB, f_not, f_lenS, f_lenD, f_hasS, f_atS, f_hasC, f_subS, f_hasCat, f_app, f_wrap, f_add, f_sub, f_mul, f_appD, f_fits, f_hasV, f_subV, decide_eq_true_eq, decide_eq_false_iff_not, beq_iff_eq, beq_eq_false_iff_ne, Bool.and_eq_true, Bool.not_eq_true, Bool.not_eq_false, Bool.not_eq_eq_eq_not, Bool.not_true, Bool.not_false] at h
    rw [hes]; exact t_hasStrs hF (i := 0) (by omega) rfl
  rw [h0]
  repeat' (first | with_reducible refine AKt.have ?_ | with_reducible refine AKt.tt ?_ | with_reducible refine AKt.ff ?_ | with_reducible refine AKt.yes (by assumption) ?_ | with_reducible refine AKt.no (by assumption) ?_ | with_reducible refine AKt.node (fun hb => ?_) (fun hb => ?_) | with_reducible refine AKt.need ?_ (fun hb => ?_) | with_reducible refine AKt.leaf ?_ | (with_reducible show _ = true; assumption))
  · exact n0 ‹_›
  · refine AKp.doneE tabOK hfr (by rfl) ?_
    show _ = _
    simp only [tupAV]
    refine avb (Bool.eq_iff_iff.2 ?_)
    simp only [hF, f_ltI, f_leI, f_eqI, f_eqS, f_eqB, f_not, f_lenS, f_lenD, f_hasS, f_atS, f_hasC, f_subS, f_hasCat, f_app, f_wrap, f_add, f_sub, f_mul, f_appD, f_fits, f_hasV, f_subV, decide_eq_true_eq, decide_eq_false_iff_not, beq_iff_eq, beq_eq_false_iff_ne, Bool.and_eq_true, Bool.not_eq_true, Bool.not_eq_false, Bool.not_eq_eq_eq_not, Bool.not_true, Bool.not_false] at *
    match l, hel with
    | [a], _ => simp_all [goodF]
    | [], h => simp [h] at *
    | a :: b :: r, h => simp at *; omega
  all_goals
    have hst : l ≠ [[42]] := by
      rintro rfl
      clear n0
      simp only [hF, f_ltI, f_leI, f_eqI, f_eqS, f_eqB, f_not, f_lenS, f_lenD, f_hasS, f_atS, f_hasC, f_subS, f_hasCat, f_app, f_wrap, f_add, f_sub, f_mul, f_appD, f_fits, f_hasV, f_subV, decide_eq_true_eq, decide_eq_false_iff_not, beq_iff_eq, beq_eq_false_iff_ne, Bool.and_eq_true, Bool.not_eq_true, Bool.not_eq_false, Bool.not_eq_eq_eq_not, Bool.not_true, Bool.not_false] at *
      simp_all
    have hz : goodF l = (l.all wordF && decide l.Nodup && decide (l.length ≤ 8)) := by
      unfold goodF
      rw [show (l == [[42]]) = false by simpa using hst]; simp
    clear n0 h0
    try clear hst
  · refine AKp.doneE tabOK hfr (by rfl) ?_
    show _ = _
    simp only [tupAV]
    refine avb (Bool.eq_iff_iff.2 ?_)
    simp only [hF, f_ltI, f_leI, f_eqI, f_eqS, f_eqB, f_not, f_lenS, f_lenD, f_hasS, f_atS, f_hasC, f_subS, f_hasCat, f_app, f_wrap, f_add, f_sub, f_mul, f_appD, f_fits, f_hasV, f_subV, decide_eq_true_eq, decide_eq_false_iff_not, beq_iff_eq, beq_eq_false_iff_ne, Bool.and_eq_true, Bool.not_eq_true, Bool.not_eq_false, Bool.not_eq_eq_eq_not, Bool.not_true, Bool.not_false] at *
    rw [hz]
    simp; omega
  rotate_left
  · refine AKp.doneE tabOK hfr (by rfl) ?_
    show _ = _
    simp only [tupAV]
    refine avb (Bool.eq_iff_iff.2 ?_)
    simp only [hF, f_ltI, f_leI, f_eqI, f_eqS, f_eqB, f_not, f_lenS, f_lenD, f_hasS, f_atS, f_hasC, f_subS, f_hasCat, f_app, f_wrap, f_add, f_sub, f_mul, f_appD, f_fits, f_hasV, f_subV, decide_eq_true_eq, decide_eq_false_iff_not, beq_iff_eq, beq_eq_false_iff_ne, Bool.and_eq_true, Bool.not_eq_true, Bool.not_eq_false, Bool.not_eq_eq_eq_not, Bool.not_true, Bool.not_false] at *
    rw [hz]
    simp; omega
  all_goals
    have h8 : l.length ≤ 8 := by
      have := ‹F .ltI 8 (F .lenD es) = false›
      simp only [hF, f_ltI, f_leI, f_eqI, f_eqS, f_eqB, f_not, f_lenS, f_lenD, f_hasS, f_atS, f_hasC, f_subS, f_hasCat, f_app, f_wrap, f_add, f_sub, f_mul, f_appD, f_fits, f_hasV, f_subV, decide_eq_true_eq, decide_eq_false_iff_not, beq_iff_eq, beq_eq_false_iff_ne, Bool.and_eq_true, Bool.not_eq_true, Bool.not_eq_false, Bool.not_eq_eq_eq_not, Bool.not_true, Bool.not_false] at this
      omega
    refine AKp.enterLoop 4 ?_
    conv => arg 7; cbv
    refine AKl.invT hF tabOK hmix hnt hfr false _ hG (fun n vs hs => ∃ (i : Nat) (iv : Int), i + n = l.length ∧ iv = i ∧ (l.take i).all wordF = true ∧ (l.take i).Nodup ∧ vs = [(3, .d (.s (.int .i64 iv)))] ∧ hs = []) l.length ⟨0, _, by omega, rfl, by simp, by simp, rfl, rfl⟩ (by repeat (first | exact True.intro | refine ⟨⟨rfl, rfl⟩, ?_⟩)) (by repeat (first | exact True.intro | refine ⟨⟨rfl, rfl, rfl⟩, ?_⟩)) ?_
    rintro J n vs hs hJ ⟨i, iv, hi, hiv, hall, hnd, rfl, rfl⟩
    conv => arg 4; cbv
    refine AKt.node (fun hb => ?_) (fun hb => ?_)
    · have hlt : i < l.length := by simp only [hF, f_ltI, f_leI, f_eqI, f_eqS, f_eqB, f_not, f_lenS, f_lenD, f_hasS, f_atS, f_hasC, f_subS, f_hasCat, f_app, f_wrap, f_add, f_sub, f_mul, f_appD, f_fits, f_hasV, f_subV, decide_eq_true_eq, decide_eq_false_iff_not, beq_iff_eq, beq_eq_false_iff_ne, Bool.and_eq_true, Bool.not_eq_true, Bool.not_eq_false, Bool.not_eq_eq_eq_not, Bool.not_true, Bool.not_false] at hb; omega
      obtain ⟨a, ha⟩ : ∃ c, l[i]? = some c := ⟨_, List.getElem?_eq_getElem hlt⟩
      have hs1 : F .strA es iv 0 = a := by rw [hes]; exact t_str0 hF ha hiv
      have hh1 : F .hasD es iv [.str] = true := by rw [hes]; exact t_hasStrs hF hlt hiv
      rw [hs1]
      refine AKt.need hh1 fun _ => AKt.have ?_
      have hno : wordF a = false → l.all wordF = false := all_false ha
      have hyes := all_take_succ (p := wordF) ha hall
      repeat' (first | with_reducible refine AKt.have ?_ | with_reducible refine AKt.tt ?_ | with_reducible refine AKt.ff ?_ | with_reducible refine AKt.yes (by assumption) ?_ | with_reducible refine AKt.no (by assumption) ?_ | with_reducible refine AKt.node (fun hb => ?_) (fun hb => ?_) | with_reducible refine AKt.need ?_ (fun hb => ?_) | with_reducible refine AKt.leaf ?_ | (with_reducible show _ = true; assumption))
      · refine AKp.doneE tabOK hfr (by rfl) ?_
        show _ = _
        simp only [tupAV]
        refine avb (Bool.eq_iff_iff.2 ?_)
        have hw : wordF a = false := by
          have := ‹F .not (uRefWord a) = true›
          subst huRefWord
          simp only [hF, f_ltI, f_leI, f_eqI, f_eqS, f_eqB, f_not, f_lenS, f_lenD, f_hasS, f_atS, f_hasC, f_subS, f_hasCat, f_app, f_wrap, f_add, f_sub, f_mul, f_appD, f_fits, f_hasV, f_subV, decide_eq_true_eq, decide_eq_false_iff_not, beq_iff_eq, beq_eq_false_iff_ne, Bool.and_eq_true, Bool.not_eq_true, Bool.not_eq_false, Bool.not_eq_eq_eq_not, Bool.not_true, Bool.not_false] at this
          exact this
        rw [hz, hno hw]
        simp
      · have hw : wordF a = true := by
          have := ‹F .not (uRefWord a) = false›
          subst huRefWord
          simp only [hF, f_ltI, f_leI, f_eqI, f_eqS, f_eqB, f_not, f_lenS, f_lenD, f_hasS, f_atS, f_hasC, f_subS, f_hasCat, f_app, f_wrap, f_add, f_sub, f_mul, f_appD, f_fits, f_hasV, f_subV, decide_eq_true_eq, decide_eq_false_iff_not, beq_iff_eq, beq_eq_false_iff_ne, Bool.and_eq_true, Bool.not_eq_true, Bool.not_eq_false, Bool.not_eq_eq_eq_not, Bool.not_true, Bool.not_false] at this
          exact this
        refine AKp.enterLoop 5 ?_
        conv => arg 7; cbv
        refine AKl.invT hF tabOK hmix hnt hfr false _ hG (fun n vs hs => ∃ (k : Nat) (kv : Int), k + n = i ∧ kv = k ∧ a ∉ l.take k ∧ vs = [(4, .d (.s (.int .i64 kv)))] ∧ hs = []) i ⟨0, _, by omega, rfl, by simp, rfl, rfl⟩ (by repeat (first | exact True.intro | refine ⟨⟨rfl, rfl⟩, ?_⟩)) (by repeat (first | exact True.intro | refine ⟨⟨rfl, rfl, rfl⟩, ?_⟩)) ?_
        rintro J2 n2 vs hs hJ2 ⟨k, kv, hk, hkv, hka, rfl, rfl⟩
        conv => arg 4; cbv
        refine AKt.node (fun hb => ?_) (fun hb => ?_)
        · have hlt2 : k < i := by simp only [hF, f_ltI, f_leI, f_eqI, f_eqS, f_eqB, f_not, f_lenS, f_lenD, f_hasS, f_atS, f_hasC, f_subS, f_hasCat, f_app, f_wrap, f_add, f_sub, f_mul, f_appD, f_fits, f_hasV, f_subV, decide_eq_true_eq, decide_eq_false_iff_not, beq_iff_eq, beq_eq_false_iff_ne, Bool.and_eq_true, Bool.not_eq_true, Bool.not_eq_false, Bool.not_eq_eq_eq_not, Bool.not_true, Bool.not_false] at hb; omega
          obtain ⟨b, hb2⟩ : ∃ c, l[k]? = some c := ⟨_, List.getElem?_eq_getElem (by omega)⟩
          have hs2 : F .strA es kv 0 = b := by rw [hes]; exact t_str0 hF hb2 hkv
          have hh2 : F .hasD es kv [.str] = true := by rw [hes]; exact t_hasStrs hF (by omega) hkv
          rw [hs1, hs2]
          repeat' (first | with_reducible refine AKt.have ?_ | with_reducible refine AKt.tt ?_ | with_reducible refine AKt.ff ?_ | with_reducible refine AKt.yes (by assumption) ?_ | with_reducible refine AKt.no (by assumption) ?_ | with_reducible refine AKt.node (fun hb => ?_) (fun hb => ?_) | with_reducible refine AKt.need ?_ (fun hb => ?_) | with_reducible refine AKt.leaf ?_ | (with_reducible show _ = true; assumption))
          · refine AKp.doneE tabOK hfr (by rfl) ?_
            show _ = _
            simp only [tupAV]
            refine avb (Bool.eq_iff_iff.2 ?_)
            have heq := eqS1 hF ‹F .eqS b a = true›
            have : ¬ l.Nodup := by
              intro hn
              have := (nodup_take_succ ha).1 (hn.sublist (List.take_sublist _ _))
              exact this.2 (heq ▸ List.mem_of_getElem? (i := k) (by rw [List.getElem?_take_of_lt hlt2]; exact hb2))
            rw [hz]
            simp [this]
          · have hne := eqS0 hF ‹F .eqS b a = false›
            refine AKp.again _ hfr (by repeat (first | exact True.intro | refine ⟨⟨rfl, rfl⟩, ?_⟩)) (by repeat (first | exact True.intro | refine ⟨⟨rfl, rfl, rfl⟩, ?_⟩)) (hJ2 (n2 - 1) _ _ (by omega) ⟨k + 1, _, by omega, inc_i hF hkv (by omega), ?_, rfl, rfl⟩)
            rw [List.take_add_one, hb2]
            simp only [Option.toList_some, List.mem_append, List.mem_singleton, not_or]
            exact ⟨hka, fun e => hne e.symm⟩
        · have hge : ¬ k < i := by simp only [hF, f_ltI, f_leI, f_eqI, f_eqS, f_eqB, f_not, f_lenS, f_lenD, f_hasS, f_atS, f_hasC, f_subS, f_hasCat, f_app, f_wrap, f_add, f_sub, f_mul, f_appD, f_fits, f_hasV, f_subV, decide_eq_true_eq, decide_eq_false_iff_not, beq_iff_eq, beq_eq_false_iff_ne, Bool.and_eq_true, Bool.not_eq_true, Bool.not_eq_false, Bool.not_eq_eq_eq_not, Bool.not_true, Bool.not_false] at hb; omega
          have hki : k = i := by omega
          rw [hki] at hka
          repeat' (first | with_reducible refine AKt.have ?_ | with_reducible refine AKt.tt ?_ | with_reducible refine AKt.ff ?_ | with_reducible refine AKt.yes (by assumption) ?_ | with_reducible refine AKt.no (by assumption) ?_ | with_reducible refine AKt.node (fun hb => ?_) (fun hb => ?_) | with_reducible refine AKt.need ?_ (fun hb => ?_) | with_reducible refine AKt.leaf ?_ | (with_reducible show _ = true; assumption))
          refine AKp.again _ hfr (by repeat (first | exact True.intro | refine ⟨⟨rfl, rfl⟩, ?_⟩)) (by repeat (first | exact True.intro | refine ⟨⟨rfl, rfl, rfl⟩, ?_⟩)) (hJ (n - 1) _ _ (by omega) ⟨i + 1, _, by omega, inc_i hF hiv (by omega), hyes hw, (nodup_take_succ ha).2 ⟨hnd, hka⟩, rfl, rfl⟩)
    · have hge : ¬ i < l.length := by simp only [hF, f_ltI, f_leI, f_eqI, f_eqS, f_eqB, f_not, f_lenS, f_lenD, f_hasS, f_atS, f_hasC, f_subS, f_hasCat, f_app, f_wrap, f_add, f_sub, f_mul, f_appD, f_fits, f_hasV, f_subV, decide_eq_true_eq, decide_eq_false_iff_not, beq_iff_eq, beq_eq_false_iff_ne, Bool.and_eq_true, Bool.not_eq_true, Bool.not_eq_false, Bool.not_eq_eq_eq_not, Bool.not_true, Bool.not_false] at hb; omega
      rw [List.take_of_length_le (by omega)] at hall hnd
      repeat' (first | with_reducible refine AKt.have ?_ | with_reducible refine AKt.tt ?_ | with_reducible refine AKt.ff ?_ | with_reducible refine AKt.yes (by assumption) ?_ | with_reducible refine AKt.no (by assumption) ?_ | with_reducible refine AKt.node (fun hb => ?_) (fun hb => ?_) | with_reducible refine AKt.need ?_ (fun hb => ?_) | with_reducible refine AKt.leaf ?_ | (with_reducible show _ = true; assumption))
      refine AKp.doneE tabOK hfr (by rfl) ?_
      show _ = _
      simp only [tupAV]
      refine avb (Bool.eq_iff_iff.2 ?_)
      rw [hz]
      simp [hall, hnd, h8]
end Go.Proofs.YtialapjchamkfaaDoor

/- The reference's lists, read and joined. -/
namespace Go.Proofs.YtialapjchamkfaaDoor
open Go Go.Proofs Go.Ua Go.Extern
set_option linter.unusedVariables false
set_option linter.unusedSimpArgs false

theorem RefGoodD_spec (es : List Dat) (h : isStrs es = true) : ESpec Tryd.prog 41 [.d (.view 1 es)] (fun x => x = .d (.s (.bool (goodF (unStr es))))) := by
  have := RefGood_spec (unStr es)
  rwa [strDs_unStr h] at this
def φRefGood (p u : List Dat → Bool) : List AV → Option (Bool × AV)
  | [.d (.view 1 l)] => some (p l, .d (.s (.bool (u l))))
  | _ => none
theorem φRefGood_ok : SpOK Tryd.prog 41 (φRefGood (isStrs) (fun l => goodF (unStr l))) := by
  intro xs b x h hb
  unfold φRefGood at h
  split at h
  · simp only [Option.some.injEq, Prod.mk.injEq] at h
    obtain ⟨rfl, rfl⟩ := h
    exact RefGoodD_spec _ hb
  · cases h

theorem good_short {w : List UInt8} (h : goodF (cutF 44 w) = true) : w.length ≤ 520 := by
  obtain ⟨h1, h2⟩ := good_le h
  have h3 := join_le _ h2
  rw [join_cut] at h3
  omega

set_option maxRecDepth 10000 in
theorem RefList_spec (w : List UInt8) (hw : le32 w = true) : ESpec Tryd.prog 21 [.d (.s (.str w))] (fun x => x = .tup [.d (.view 1 (listV w)), .d (.s (.bool (listB w)))]) := by
  obtain ⟨uCut, huCut⟩ : ∃ u : List UInt8 → Bool, u = le32 := ⟨_, rfl⟩
  obtain ⟨uCut1, huCut1⟩ : ∃ u : List UInt8 → Int → List Dat, u = fun w n => strDs (cutF (UInt8.ofNat n.toNat) w) := ⟨_, rfl⟩
  obtain ⟨uRefGood, huRefGood⟩ : ∃ u : List Dat → Bool, u = isStrs := ⟨_, rfl⟩
  obtain ⟨uRefGood1, huRefGood1⟩ : ∃ u : List Dat → Bool, u = fun l => goodF (unStr l) := ⟨_, rfl⟩
  have hG : TblOK Tryd.prog [(34, φCut uCut uCut1), (41, φRefGood uRefGood uRefGood1)] := ⟨(by rw [huCut, huCut1]; exact φCut_ok), (by rw [huRefGood, huRefGood1]; exact φRefGood_ok), trivial⟩
  refine ESpec.enter Tryd.func21 (by kernel_rfl) rfl (Nat.le_of_ble_eq_true rfl) fun hok cx hnt hfr => ?_
  obtain ⟨F, hF⟩ := real_ex
  refine AK.runT hF tabOK hmix hnt hfr false _ hG ?_
  conv => arg 4; cbv
  have hp : uCut w = true := by subst huCut huCut1 huRefGood huRefGood1; exact hw
  have hg : uRefGood (uCut1 w 44) = true := by subst huCut huCut1 huRefGood huRefGood1; exact isStrs_strDs _
  obtain ⟨gd, hgd⟩ : ∃ z, z = goodF (cutF 44 w) := ⟨_, rfl⟩
  have hu : uRefGood1 (uCut1 w 44) = gd := by rw [hgd]; subst huCut huCut1 huRefGood huRefGood1; show goodF (unStr (strDs (cutF 44 w))) = _; rw [unStr_strDs]
  have hc : uCut1 w 44 = strDs (cutF 44 w) := by subst huCut huCut1 huRefGood huRefGood1; rfl
  rw [hu]
  repeat' (first | with_reducible refine AKt.have ?_ | with_reducible refine AKt.tt ?_ | with_reducible refine AKt.ff ?_ | with_reducible refine AKt.yes (by assumption) ?_ | with_reducible refine AKt.no (by assumption) ?_ | with_reducible refine AKt.node (fun hb => ?_) (fun hb => ?_) | with_reducible refine AKt.need ?_ (fun hb => ?_) | with_reducible refine AKt.leaf ?_ | (with_reducible show _ = true; assumption))
  · refine AKp.retell 2 (.view 1 []) rfl (by repeat constructor) ?_
    conv => arg 4; arg 2; cbv
    refine AKp.doneE tabOK hfr (by rfl) ?_
    show _ = _
    simp only [tupAV]
    unfold listV listB
    rw [show listF w = some [] by rw [listF, if_pos (eqS1 hF ‹F .eqS w [45] = true›)]]
    rfl
  · refine AKp.retell 2 (.view 1 []) rfl (by repeat constructor) ?_
    conv => arg 4; arg 2; cbv
    refine AKp.doneE tabOK hfr (by rfl) ?_
    show _ = _
    simp only [tupAV]
    have h1 := eqS0 hF ‹F .eqS w [45] = false›
    have h2 : goodF (cutF 44 w) = false := by
      rw [← hgd]
      have := ‹F .not gd = true›
      simp only [hF, f_ltI, f_leI, f_eqI, f_eqS, f_eqB, f_not, f_lenS, f_lenD, f_hasS, f_atS, f_hasC, f_subS, f_hasCat, f_app, f_wrap, f_add, f_sub, f_mul, f_appD, f_fits, f_hasV, f_subV, decide_eq_true_eq, decide_eq_false_iff_not, beq_iff_eq, beq_eq_false_iff_ne, Bool.and_eq_true, Bool.not_eq_true, Bool.not_eq_false, Bool.not_eq_eq_eq_not, Bool.not_true, Bool.not_false] at this
      exact this
    unfold listV listB
    rw [show listF w = none by rw [listF, if_neg h1, h2]; simp]
    rfl
  · refine AKp.doneE tabOK hfr (by rfl) ?_
    show _ = _
    simp only [tupAV]
    have h1 := eqS0 hF ‹F .eqS w [45] = false›
    have h2 : goodF (cutF 44 w) = true := by
      rw [← hgd]
      have := ‹F .not gd = false›
      simp only [hF, f_ltI, f_leI, f_eqI, f_eqS, f_eqB, f_not, f_lenS, f_lenD, f_hasS, f_atS, f_hasC, f_subS, f_hasCat, f_app, f_wrap, f_add, f_sub, f_mul, f_appD, f_fits, f_hasV, f_subV, decide_eq_true_eq, decide_eq_false_iff_not, beq_iff_eq, beq_eq_false_iff_ne, Bool.and_eq_true, Bool.not_eq_true, Bool.not_eq_false, Bool.not_eq_eq_eq_not, Bool.not_true, Bool.not_false] at this
      exact this
    unfold listV listB
    rw [hc, show listF w = some (cutF 44 w) by rw [listF, if_neg h1, if_neg (by have := good_short h2; omega), if_pos h2]]
    rfl
def φRefList (p : List UInt8 → Bool) (u : List UInt8 → List Dat) (v : List UInt8 → Bool) : List AV → Option (Bool × AV)
  | [.d (.s (.str w))] => some (p w, .tup [.d (.view 1 (u w)), .d (.s (.bool (v w)))])
  | _ => none
theorem φRefList_ok : SpOK Tryd.prog 21 (φRefList (le32) (listV) (listB)) := by
  intro xs b x h hb
  unfold φRefList at h
  split at h
  · simp only [Option.some.injEq, Prod.mk.injEq] at h
    obtain ⟨rfl, rfl⟩ := h
    exact RefList_spec _ hb
  · cases h

theorem join_snoc (c : UInt8) : ∀ (l : List (List UInt8)) (x : List UInt8), l ≠ [] → Lib.join (l ++ [x]) [c] = Lib.join l [c] ++ c :: x
  | [], x, h => absurd rfl h
  | [a], x, _ => by rw [show [a] ++ [x] = [a, x] from rfl, join_cons2, Lib.join_one, Lib.join_one]
  | a :: b :: r, x, _ => by
    have := join_snoc c (b :: r) x (by simp)
    rw [show a :: b :: r ++ [x] = a :: b :: (r ++ [x]) from rfl, join_cons2, show b :: (r ++ [x]) = b :: r ++ [x] from rfl, this, join_cons2]
    simp

set_option maxRecDepth 10000 in
theorem RefJoin_spec (l : List (List UInt8)) : ESpec Tryd.prog 25 [.d (.view 1 (strDs l))] (fun x => x = .d (.s (.str (joinF l)))) := by
  obtain ⟨uRefGood, huRefGood⟩ : ∃ u : List Dat → Bool, u = isStrs := ⟨_, rfl⟩
  obtain ⟨uRefGood1, huRefGood1⟩ : ∃ u : List Dat → Bool, u = fun l => goodF (unStr l) := ⟨_, rfl⟩
  have hG : TblOK Tryd.prog [(41, φRefGood uRefGood uRefGood1)] := ⟨(by rw [huRefGood, huRefGood1]; exact φRefGood_ok), trivial⟩
  have hp : uRefGood (strDs l) = true := by subst huRefGood huRefGood1; exact isStrs_strDs _
  obtain ⟨gd, hgd⟩ : ∃ z, z = goodF l := ⟨_, rfl⟩
  have hu : uRefGood1 (strDs l) = gd := by rw [hgd]; subst huRefGood huRefGood1; show goodF (unStr (strDs l)) = _; rw [unStr_strDs]
  obtain ⟨es, hes⟩ : ∃ z, z = strDs l := ⟨_, rfl⟩
  rw [← hes] at hp hu ⊢
  have hel : es.length = l.length := by rw [hes]; simp [strDs]
  refine ESpec.enter Tryd.func25 (by kernel_rfl) rfl (Nat.le_of_ble_eq_true rfl) fun hok cx hnt hfr => ?_
  obtain ⟨F, hF⟩ := real_ex
  refine AK.runT hF tabOK hmix hnt hfr false _ hG ?_
  conv => arg 4; cbv
  rw [hu]
  have h0 : F .strA es 0 0 = l.headD [] := by
    cases l with
    | nil => subst hF; rw [hes]; rfl
    | cons a r => rw [hes]; exact t_str0 hF (i := 0) rfl rfl
  obtain ⟨l0, hl0⟩ : ∃ z, z = l.headD [] := ⟨_, rfl⟩
  rw [h0, ← hl0]
  repeat' (first | with_reducible refine AKt.have ?_ | with_reducible refine AKt.tt ?_ | with_reducible refine AKt.ff ?_ | with_reducible refine AKt.yes (by assumption) ?_ | with_reducible refine AKt.no (by assumption) ?_ | with_reducible refine AKt.node (fun hb => ?_) (fun hb => ?_) | with_reducible refine AKt.need ?_ (fun hb => ?_) | with_reducible refine AKt.leaf ?_ | (with_reducible show _ = true; assumption))
  · refine AKp.doneE tabOK hfr (by rfl) ?_
    show _ = _
    simp only [tupAV]
    have := ‹F .not gd = true›
    simp only [hF, f_ltI, f_leI, f_eqI, f_eqS, f_eqB, f_not, f_lenS, f_lenD, f_hasS, f_atS, f_hasC, f_subS, f_hasCat, f_app, f_wrap, f_add, f_sub, f_mul, f_appD, f_fits, f_hasV, f_subV, decide_eq_true_eq, decide_eq_false_iff_not, beq_iff_eq, beq_eq_false_iff_ne, Bool.and_eq_true, Bool.not_eq_true, Bool.not_eq_false, Bool.not_eq_eq_eq_not, Bool.not_true, Bool.not_false] at this
    unfold joinF
    rw [← hgd, this]
    rfl
  · refine AKp.doneE tabOK hfr (by rfl) ?_
    show _ = _
    simp only [tupAV]
    have h1 := ‹F .eqI (F .lenD es) 0 = true›
    have := ‹F .not gd = false›
    simp only [hF, f_ltI, f_leI, f_eqI, f_eqS, f_eqB, f_not, f_lenS, f_lenD, f_hasS, f_atS, f_hasC, f_subS, f_hasCat, f_app, f_wrap, f_add, f_sub, f_mul, f_appD, f_fits, f_hasV, f_subV, decide_eq_true_eq, decide_eq_false_iff_not, beq_iff_eq, beq_eq_false_iff_ne, Bool.and_eq_true, Bool.not_eq_true, Bool.not_eq_false, Bool.not_eq_eq_eq_not, Bool.not_true, Bool.not_false] at this h1
    obtain rfl : l = [] := List.eq_nil_of_length_eq_zero (by omega)
    rfl
  · have h1 := ‹F .eqI (F .lenD es) 0 = false›
    simp only [hF, f_ltI, f_leI, f_eqI, f_eqS, f_eqB, f_not, f_lenS, f_lenD, f_hasS, f_atS, f_hasC, f_subS, f_hasCat, f_app, f_wrap, f_add, f_sub, f_mul, f_appD, f_fits, f_hasV, f_subV, decide_eq_true_eq, decide_eq_false_iff_not, beq_iff_eq, beq_eq_false_iff_ne, Bool.and_eq_true, Bool.not_eq_true, Bool.not_eq_false, Bool.not_eq_eq_eq_not, Bool.not_true, Bool.not_false] at h1
    rw [hes]
    exact t_hasStrs hF (i := 0) (by omega) rfl
  · have h1 := ‹F .eqI (F .lenD es) 0 = false›
    have hg : goodF l = true := by
      rw [← hgd]
      have := ‹F .not gd = false›
      simp only [hF, f_ltI, f_leI, f_eqI, f_eqS, f_eqB, f_not, f_lenS, f_lenD, f_hasS, f_atS, f_hasC, f_subS, f_hasCat, f_app, f_wrap, f_add, f_sub, f_mul, f_appD, f_fits, f_hasV, f_subV, decide_eq_true_eq, decide_eq_false_iff_not, beq_iff_eq, beq_eq_false_iff_ne, Bool.and_eq_true, Bool.not_eq_true, Bool.not_eq_false, Bool.not_eq_eq_eq_not, Bool.not_true, Bool.not_false] at this
      exact this
    simp only [hF, f_ltI, f_leI, f_eqI, f_eqS, f_eqB, f_not, f_lenS, f_lenD, f_hasS, f_atS, f_hasC, f_subS, f_hasCat, f_app, f_wrap, f_add, f_sub, f_mul, f_appD, f_fits, f_hasV, f_subV, decide_eq_true_eq, decide_eq_false_iff_not, beq_iff_eq, beq_eq_false_iff_ne, Bool.and_eq_true, Bool.not_eq_true, Bool.not_eq_false, Bool.not_eq_eq_eq_not, Bool.not_true, Bool.not_false] at h1
    obtain ⟨a, r, rfl⟩ : ∃ a r, l = a :: r := by
      cases l with
      | nil => exact absurd (by rw [hel]; rfl) h1
      | cons a r => exact ⟨a, r, rfl⟩
    obtain ⟨l, hl⟩ : ∃ l, l = a :: r := ⟨_, rfl⟩
    have hg2 := good_le hg
    have hj : joinF (a :: r) = Lib.join l [44] := by unfold joinF; rw [if_pos hg, if_neg (by simp), hl]
    have hne : l ≠ [] := by rw [hl]; simp
    rw [← hl] at hes hel hg2
    rw [hj]
    have hl0 : l0 = a := hl0
    rw [hl0]
    refine AKp.enterLoop 5 ?_
    conv => arg 7; cbv
    refine AKl.invT hF tabOK hmix hnt hfr false _ hG (fun n vs hs => ∃ (i : Nat) (iv : Int) (s : List UInt8), i + n = l.length ∧ 1 ≤ i ∧ iv = i ∧ s = Lib.join (l.take i) [44] ∧ vs = [(4, .d (.s (.int .i64 iv))), (3, .d (.s (.str s)))] ∧ hs = []) (l.length - 1) ⟨1, _, a, by have : 1 ≤ l.length := (by rw [hl]; simp); omega, by omega, rfl, by rw [hl]; exact (Lib.join_one _ _).symm, rfl, rfl⟩ (by repeat (first | exact True.intro | refine ⟨⟨rfl, rfl⟩, ?_⟩)) (by repeat (first | exact True.intro | refine ⟨⟨rfl, rfl, rfl⟩, ?_⟩)) ?_
    rintro J n vs hs hJ ⟨i, iv, s, hi, hi1, hiv, hs, rfl, rfl⟩
    conv => arg 4; cbv
    refine AKt.node (fun hb => ?_) (fun hb => ?_)
    · have hlt : i < l.length := by simp only [hF, f_ltI, f_leI, f_eqI, f_eqS, f_eqB, f_not, f_lenS, f_lenD, f_hasS, f_atS, f_hasC, f_subS, f_hasCat, f_app, f_wrap, f_add, f_sub, f_mul, f_appD, f_fits, f_hasV, f_subV, decide_eq_true_eq, decide_eq_false_iff_not, beq_iff_eq, beq_eq_false_iff_ne, Bool.and_eq_true, Bool.not_eq_true, Bool.not_eq_false, Bool.not_eq_eq_eq_not, Bool.not_true, Bool.not_false] at hb; omega
      obtain ⟨x, hx⟩ : ∃ c, l[i]? = some c := ⟨_, List.getElem?_eq_getElem hlt⟩
      have hs1 : F .strA es iv 0 = x := by rw [hes]; exact t_str0 hF hx hiv
      have hh1 : F .hasD es iv [.str] = true := by rw [hes]; exact t_hasStrs hF hlt hiv
      have hsl : s.length ≤ 520 := by
        have := join_le (l.take i) fun p hp => hg2.2 p (List.mem_of_mem_take hp)
        rw [← hs] at this
        have h3 : (l.take i).length ≤ 8 := by simp; omega
        omega
      have hxl : x.length ≤ 64 := hg2.2 x (List.mem_of_getElem? hx)
      rw [hs1]
      have hc1 : F .hasCat [44] x = true := t_hasCat hF (by simp; omega)
      have ha1 : F .app [44] x = 44 :: x := by rw [hF]; rfl
      rw [ha1]
      have hc2 : F .hasCat s (44 :: x) = true := t_hasCat hF (by simp; omega)
      have ha2 : F .app s (44 :: x) = s ++ 44 :: x := by rw [hF]; rfl
      rw [ha2]
      repeat' (first | with_reducible refine AKt.have ?_ | with_reducible refine AKt.tt ?_ | with_reducible refine AKt.ff ?_ | with_reducible refine AKt.yes (by assumption) ?_ | with_reducible refine AKt.no (by assumption) ?_ | with_reducible refine AKt.node (fun hb => ?_) (fun hb => ?_) | with_reducible refine AKt.need ?_ (fun hb => ?_) | with_reducible refine AKt.leaf ?_ | (with_reducible show _ = true; assumption))
      refine AKp.again _ hfr (by repeat (first | exact True.intro | refine ⟨⟨rfl, rfl⟩, ?_⟩)) (by repeat (first | exact True.intro | refine ⟨⟨rfl, rfl, rfl⟩, ?_⟩)) (hJ (n - 1) _ _ (by omega) ⟨i + 1, _, _, by omega, by omega, inc_i hF hiv (by omega), ?_, rfl, rfl⟩)
      rw [List.take_add_one, hx, hs]
      exact (join_snoc 44 (l.take i) x (by intro e; rw [List.take_eq_nil_iff] at e; rcases e with e | e <;> first | omega | exact hne e)).symm
    · have hge : ¬ i < l.length := by simp only [hF, f_ltI, f_leI, f_eqI, f_eqS, f_eqB, f_not, f_lenS, f_lenD, f_hasS, f_atS, f_hasC, f_subS, f_hasCat, f_app, f_wrap, f_add, f_sub, f_mul, f_appD, f_fits, f_hasV, f_subV, decide_eq_true_eq, decide_eq_false_iff_not, beq_iff_eq, beq_eq_false_iff_ne, Bool.and_eq_true, Bool.not_eq_true, Bool.not_eq_false, Bool.not_eq_eq_eq_not, Bool.not_true, Bool.not_false] at hb; omega
      rw [List.take_of_length_le (by omega)] at hs
      repeat' (first | with_reducible refine AKt.have ?_ | with_reducible refine AKt.tt ?_ | with_reducible refine AKt.ff ?_ | with_reducible refine AKt.yes (by assumption) ?_ | with_reducible refine AKt.no (by assumption) ?_ | with_reducible refine AKt.node (fun hb => ?_) (fun hb => ?_) | with_reducible refine AKt.need ?_ (fun hb => ?_) | with_reducible refine AKt.leaf ?_ | (with_reducible show _ = true; assumption))
      refine AKp.doneE tabOK hfr (by rfl) ?_
      show _ = _
      simp only [tupAV]
      rw [hs]
theorem RefJoinD_spec (es : List Dat) (h : isStrs es = true) : ESpec Tryd.prog 25 [.d (.view 1 es)] (fun x => x = .d (.s (.str (joinF (unStr es))))) := by
  have := RefJoin_spec (unStr es)
  rwa [strDs_unStr h] at this
def φRefJoin (p : List Dat → Bool) (u : List Dat → List UInt8) : List AV → Option (Bool × AV)
  | [.d (.view 1 l)] => some (p l, .d (.s (.str (u l))))
  | _ => none
theorem φRefJoin_ok : SpOK Tryd.prog 25 (φRefJoin (isStrs) (fun l => joinF (unStr l))) := by
  intro xs b x h hb
  unfold φRefJoin at h
  split at h
  · simp only [Option.some.injEq, Prod.mk.injEq] at h
    obtain ⟨rfl, rfl⟩ := h
    exact RefJoinD_spec _ hb
  · cases h
end Go.Proofs.YtialapjchamkfaaDoor

/- WordsKinds: the function returns true. -/
namespace Go.Proofs.YtialapjchamkfaaDoor
open Go Go.Proofs Go.Ua Go.Extern
set_option linter.unusedVariables false
set_option linter.unusedSimpArgs false

theorem le32_of {w : List UInt8} (h : w.length ≤ 16384) : le32 w = true := decide_eq_true (by omega)

set_option maxRecDepth 10000 in
theorem WordsKinds_spec (w : List UInt8) (l : List (List UInt8)) : ESpec Tryd.prog 7 [.d (.s (.str w)), .d (.view 1 (strDs l))] (fun x => x = .d (.s (.bool true))) := by
  obtain ⟨uList, huList⟩ : ∃ u : List UInt8 → List Dat, u = listV := ⟨_, rfl⟩
  obtain ⟨uList1, huList1⟩ : ∃ u : List UInt8 → Bool, u = listB := ⟨_, rfl⟩
  obtain ⟨uRefList, huRefList⟩ : ∃ u : List UInt8 → Bool, u = le32 := ⟨_, rfl⟩
  obtain ⟨uRefList1, huRefList1⟩ : ∃ u : List UInt8 → List Dat, u = listV := ⟨_, rfl⟩
  obtain ⟨uRefList2, huRefList2⟩ : ∃ u : List UInt8 → Bool, u = listB := ⟨_, rfl⟩
  obtain ⟨uJoin, huJoin⟩ : ∃ u : List Dat → Bool, u = isStrs := ⟨_, rfl⟩
  obtain ⟨uJoin1, huJoin1⟩ : ∃ u : List Dat → List UInt8, u = fun l => joinF (unStr l) := ⟨_, rfl⟩
  obtain ⟨uName, huName⟩ : ∃ u : List UInt8 → Bool, u = nameF := ⟨_, rfl⟩
  obtain ⟨uRefName, huRefName⟩ : ∃ u : List UInt8 → Bool, u = nameF := ⟨_, rfl⟩
  obtain ⟨uWord, huWord⟩ : ∃ u : List UInt8 → Bool, u = wordF := ⟨_, rfl⟩
  obtain ⟨uRefWord, huRefWord⟩ : ∃ u : List UInt8 → Bool, u = wordF := ⟨_, rfl⟩
  obtain ⟨uSame, huSame⟩ : ∃ u : List Dat → List Dat → Bool, u = fun l m => isStrs l && isStrs m := ⟨_, rfl⟩
  obtain ⟨uSame1, huSame1⟩ : ∃ u : List Dat → List Dat → Bool, u = fun l m => decide (unStr l = unStr m) := ⟨_, rfl⟩
  obtain ⟨uRefJoin, huRefJoin⟩ : ∃ u : List Dat → Bool, u = isStrs := ⟨_, rfl⟩
  obtain ⟨uRefJoin1, huRefJoin1⟩ : ∃ u : List Dat → List UInt8, u = fun l => joinF (unStr l) := ⟨_, rfl⟩
  have hG : TblOK Tryd.prog [(11, φAwake ), (18, φList uList uList1), (21, φRefList uRefList uRefList1 uRefList2), (22, φJoin uJoin uJoin1), (19, φName uName), (23, φRefName uRefName), (17, φWord uWord), (24, φRefWord uRefWord), (12, φSame uSame uSame1), (25, φRefJoin uRefJoin uRefJoin1)] := ⟨φAwake_ok, (by rw [huList, huList1]; exact φList_ok), (by rw [huRefList, huRefList1, huRefList2]; exact φRefList_ok), (by rw [huJoin, huJoin1]; exact φJoin_ok), (by rw [huName]; exact φName_ok), (by rw [huRefName]; exact φRefName_ok), (by rw [huWord]; exact φWord_ok), (by rw [huRefWord]; exact φRefWord_ok), (by rw [huSame, huSame1]; exact φSame_ok), (by rw [huRefJoin, huRefJoin1]; exact φRefJoin_ok), trivial⟩
  obtain ⟨es, hes⟩ : ∃ z, z = strDs l := ⟨_, rfl⟩
  rw [← hes]
  have hel : es.length = l.length := by rw [hes]; simp [strDs]
  have e1 : uJoin es = true := by subst huList huList1 huRefList huRefList1 huRefList2 huJoin huJoin1 huName huRefName huWord huRefWord huSame huSame1 huRefJoin huRefJoin1; rw [hes]; exact isStrs_strDs _
  have e2 : uRefJoin es = true := by subst huList huList1 huRefList huRefList1 huRefList2 huJoin huJoin1 huName huRefName huWord huRefWord huSame huSame1 huRefJoin huRefJoin1; rw [hes]; exact isStrs_strDs _
  have e3 : uSame (uList w) (uRefList1 w) = true := by subst huList huList1 huRefList huRefList1 huRefList2 huJoin huJoin1 huName huRefName huWord huRefWord huSame huSame1 huRefJoin huRefJoin1; show (isStrs (strDs _) && isStrs (strDs _)) = true; simp only [isStrs_strDs]; rfl
  have e4 : uSame1 (uList w) (uRefList1 w) = true := by subst huList huList1 huRefList huRefList1 huRefList2 huJoin huJoin1 huName huRefName huWord huRefWord huSame huSame1 huRefJoin huRefJoin1; exact decide_eq_true rfl
  have e5 : uSame es es = true := by subst huList huList1 huRefList huRefList1 huRefList2 huJoin huJoin1 huName huRefName huWord huRefWord huSame huSame1 huRefJoin huRefJoin1; show (isStrs es && isStrs es) = true; rw [hes, isStrs_strDs]; rfl
  have e6 : uSame1 es es = true := by subst huList huList1 huRefList huRefList1 huRefList2 huJoin huJoin1 huName huRefName huWord huRefWord huSame huSame1 huRefJoin huRefJoin1; exact decide_eq_true rfl
  have f1 : uRefName w = uName w := by subst huList huList1 huRefList huRefList1 huRefList2 huJoin huJoin1 huName huRefName huWord huRefWord huSame huSame1 huRefJoin huRefJoin1; rfl
  have f2 : uRefWord w = uWord w := by subst huList huList1 huRefList huRefList1 huRefList2 huJoin huJoin1 huName huRefName huWord huRefWord huSame huSame1 huRefJoin huRefJoin1; rfl
  have f3 : uRefList2 w = uList1 w := by subst huList huList1 huRefList huRefList1 huRefList2 huJoin huJoin1 huName huRefName huWord huRefWord huSame huSame1 huRefJoin huRefJoin1; rfl
  have f4 : uRefJoin1 es = uJoin1 es := by subst huList huList1 huRefList huRefList1 huRefList2 huJoin huJoin1 huName huRefName huWord huRefWord huSame huSame1 huRefJoin huRefJoin1; rfl
  refine ESpec.enter Tryd.func7 (by kernel_rfl) rfl (Nat.le_of_ble_eq_true rfl) fun hok cx hnt hfr => ?_
  obtain ⟨F, hF⟩ := real_ex
  refine AK.runT hF tabOK hmix hnt hfr false _ hG ?_
  conv => arg 4; cbv
  rw [l_not1 hF]
  repeat' (first | with_reducible refine AKt.have ?_ | with_reducible refine AKt.tt ?_ | with_reducible refine AKt.ff ?_ | with_reducible refine AKt.yes (by assumption) ?_ | with_reducible refine AKt.no (by assumption) ?_ | with_reducible refine AKt.node (fun hb => ?_) (fun hb => ?_) | with_reducible refine AKt.need ?_ (fun hb => ?_) | with_reducible refine AKt.leaf ?_ | (with_reducible show _ = true; assumption))
  · exact AKp.doneE tabOK hfr (by rfl) (by rfl)
  · exact AKp.doneE tabOK hfr (by rfl) (by rfl)
  have hwl : w.length ≤ 16384 := by
    have := ‹F .ltI 16384 (F .lenS w) = false›
    simp only [hF, f_ltI, f_leI, f_eqI, f_eqS, f_eqB, f_not, f_lenS, f_lenD, f_hasS, f_atS, f_hasC, f_subS, f_hasCat, f_app, f_wrap, f_add, f_sub, f_mul, f_appD, f_fits, f_hasV, f_subV, decide_eq_true_eq, decide_eq_false_iff_not, beq_iff_eq, beq_eq_false_iff_ne, Bool.and_eq_true, Bool.not_eq_true, Bool.not_eq_false, Bool.not_eq_eq_eq_not, Bool.not_true, Bool.not_false] at this
    omega
  have hll : l.length ≤ 64 := by
    have := ‹F .ltI 64 (F .lenD es) = false›
    simp only [hF, f_ltI, f_leI, f_eqI, f_eqS, f_eqB, f_not, f_lenS, f_lenD, f_hasS, f_atS, f_hasC, f_subS, f_hasCat, f_app, f_wrap, f_add, f_sub, f_mul, f_appD, f_fits, f_hasV, f_subV, decide_eq_true_eq, decide_eq_false_iff_not, beq_iff_eq, beq_eq_false_iff_ne, Bool.and_eq_true, Bool.not_eq_true, Bool.not_eq_false, Bool.not_eq_eq_eq_not, Bool.not_true, Bool.not_false] at this
    omega
  have e7 : uRefList w = true := by subst huList huList1 huRefList huRefList1 huRefList2 huJoin huJoin1 huName huRefName huWord huRefWord huSame huSame1 huRefJoin huRefJoin1; exact le32_of hwl
  refine AKp.enterLoop 7 ?_
  conv => arg 7; cbv
  refine AKl.invT hF tabOK hmix hnt hfr false _ hG (fun n vs hs => ∃ (i : Nat) (iv nv : Int), i + n = l.length ∧ iv = i ∧ 0 ≤ nv ∧ nv ≤ i * 16384 ∧ vs = [(6, .d (.s (.int .i64 iv))), (5, .d (.s (.int .i64 nv)))] ∧ hs = []) l.length ⟨0, _, 0, by omega, rfl, by omega, by omega, rfl, rfl⟩ (by repeat (first | exact True.intro | refine ⟨⟨rfl, rfl⟩, ?_⟩)) (by repeat (first | exact True.intro | refine ⟨⟨rfl, rfl, rfl⟩, ?_⟩)) ?_
  rintro J n vs hs hJ ⟨i, iv, nv, hi, hiv, hn0, hn1, rfl, rfl⟩
  conv => arg 4; cbv
  refine AKt.node (fun hb => ?_) (fun hb => ?_)
  · have hlt : i < l.length := by simp only [hF, f_ltI, f_leI, f_eqI, f_eqS, f_eqB, f_not, f_lenS, f_lenD, f_hasS, f_atS, f_hasC, f_subS, f_hasCat, f_app, f_wrap, f_add, f_sub, f_mul, f_appD, f_fits, f_hasV, f_subV, decide_eq_true_eq, decide_eq_false_iff_not, beq_iff_eq, beq_eq_false_iff_ne, Bool.and_eq_true, Bool.not_eq_true, Bool.not_eq_false, Bool.not_eq_eq_eq_not, Bool.not_true, Bool.not_false] at hb; omega
    obtain ⟨x, hx⟩ : ∃ c, l[i]? = some c := ⟨_, List.getElem?_eq_getElem hlt⟩
    have hs1 : F .strA es iv 0 = x := by rw [hes]; exact t_str0 hF hx hiv
    have hh1 : F .hasD es iv [.str] = true := by rw [hes]; exact t_hasStrs hF hlt hiv
    rw [hs1]
    repeat' (first | with_reducible refine AKt.have ?_ | with_reducible refine AKt.tt ?_ | with_reducible refine AKt.ff ?_ | with_reducible refine AKt.yes (by assumption) ?_ | with_reducible refine AKt.no (by assumption) ?_ | with_reducible refine AKt.node (fun hb => ?_) (fun hb => ?_) | with_reducible refine AKt.need ?_ (fun hb => ?_) | with_reducible refine AKt.leaf ?_ | (with_reducible show _ = true; assumption))
    · exact AKp.doneE tabOK hfr (by rfl) (by rfl)
    · have hxl : x.length ≤ 16384 := by
        have := ‹F .ltI 16384 (F .lenS x) = false›
        simp only [hF, f_ltI, f_leI, f_eqI, f_eqS, f_eqB, f_not, f_lenS, f_lenD, f_hasS, f_atS, f_hasC, f_subS, f_hasCat, f_app, f_wrap, f_add, f_sub, f_mul, f_appD, f_fits, f_hasV, f_subV, decide_eq_true_eq, decide_eq_false_iff_not, beq_iff_eq, beq_eq_false_iff_ne, Bool.and_eq_true, Bool.not_eq_true, Bool.not_eq_false, Bool.not_eq_eq_eq_not, Bool.not_true, Bool.not_false] at this
        omega
      have hsum : F .wrap .i64 (F .add nv (F .lenS x)) = nv + x.length := by
        rw [hF]
        show IntKind.i64.wrap (nv + (x.length : Int)) = _
        exact w_i64 (by omega) (by omega)
      refine AKp.again _ hfr (by repeat (first | exact True.intro | refine ⟨⟨rfl, rfl⟩, ?_⟩)) (by repeat (first | exact True.intro | refine ⟨⟨rfl, rfl, rfl⟩, ?_⟩)) (hJ (n - 1) _ _ (by omega) ⟨i + 1, _, _, by omega, inc_i hF hiv (by omega), ?_, ?_, rfl, rfl⟩)
      · rw [hsum]; omega
      · rw [hsum]; omega
  · have hge : ¬ i < l.length := by simp only [hF, f_ltI, f_leI, f_eqI, f_eqS, f_eqB, f_not, f_lenS, f_lenD, f_hasS, f_atS, f_hasC, f_subS, f_hasCat, f_app, f_wrap, f_add, f_sub, f_mul, f_appD, f_fits, f_hasV, f_subV, decide_eq_true_eq, decide_eq_false_iff_not, beq_iff_eq, beq_eq_false_iff_ne, Bool.and_eq_true, Bool.not_eq_true, Bool.not_eq_false, Bool.not_eq_eq_eq_not, Bool.not_true, Bool.not_false] at hb; omega
    obtain ⟨mine, hmine⟩ : ∃ z, z = F .appD (F .appD [] es) [.s (.str [120])] := ⟨_, rfl⟩
    have hmv : mine = strDs (l ++ [[120]]) := by rw [hmine, t_appD hF, t_appD hF, hes]; simp [strDs]
    have hml : mine.length = l.length + 1 := by rw [hmv]; simp [strDs]
    rw [← hmine]
    have hf1 : F .fits 16 (F .appD [] es) = true := t_fits hF (by rw [t_appD hF]; simp; omega)
    have hf2 : F .fits 16 mine = true := t_fits hF (by omega)
    repeat' (first | with_reducible refine AKt.have ?_ | with_reducible refine AKt.tt ?_ | with_reducible refine AKt.ff ?_ | with_reducible refine AKt.yes (by assumption) ?_ | with_reducible refine AKt.no (by assumption) ?_ | with_reducible refine AKt.node (fun hb => ?_) (fun hb => ?_) | with_reducible refine AKt.need ?_ (fun hb => ?_) | with_reducible refine AKt.leaf ?_ | (with_reducible show _ = true; assumption))
    refine AKp.freeze 3 rfl ?_
    conv => arg 4; arg 2; cbv
    refine AK.runT hF tabOK hmix hnt hfr false _ hG ?_
    conv => arg 4; cbv
    have hsub : F .subV mine 0 (F .lenD es) = es := by
      rw [t_subV hF (i := 0) (j := l.length) (iv := 0) (jv := F .lenD es) rfl (by rw [l_lenD hF, hel]), hmv, hes, strDs_take, strDs_drop]; simp
    have hhas : F .hasV mine 0 (F .lenD es) = true := t_hasV hF (i := 0) (j := l.length) rfl (by rw [l_lenD hF, hel]) (by omega) (by omega)
    have hx1 : F .strA mine (F .lenD es) 0 = [120] := by
      rw [hmv]; exact t_str0 hF (i := l.length) (by simp) (by rw [l_lenD hF, hel])
    have hx2 : F .hasD mine (F .lenD es) [.str] = true := by
      rw [hmv]; exact t_hasStrs hF (i := l.length) (by simp) (by rw [l_lenD hF, hel])
    have eqB : ∀ b : Bool, F .eqB b b = true := fun b => by rw [hF, f_eqB]; simp
    have eqS : ∀ b : List UInt8, F .eqS b b = true := fun b => by rw [hF, f_eqS]; simp
    have h0 : F .leI 0 nv = true := by rw [hF, f_leI]; exact decide_eq_true hn0
    rw [hsub, h0, f1, eqB (uName w), f2, eqB (uWord w), f3, eqB (uList1 w), e4, f4, eqS (uJoin1 es), e6, hx1, eqS [120]]
    repeat' (first | with_reducible refine AKt.have ?_ | with_reducible refine AKt.tt ?_ | with_reducible refine AKt.ff ?_ | with_reducible refine AKt.yes (by assumption) ?_ | with_reducible refine AKt.no (by assumption) ?_ | with_reducible refine AKt.node (fun hb => ?_) (fun hb => ?_) | with_reducible refine AKt.need ?_ (fun hb => ?_) | with_reducible refine AKt.leaf ?_ | (with_reducible show _ = true; assumption))
    exact AKp.doneE tabOK hfr (by rfl) (by rfl)
end Go.Proofs.YtialapjchamkfaaDoor
