/- The library of this claim and its walks, part 47, joined out of smaller texts. No statement stands in it. -/
import Derived.Test.YtljidkmppeaecaaDoorUaM20
import Derived.Test.YtljidkmppeaecaaDoorUaM46
import Derived.Handed
import Derived.HandedShaped
import Derived.Lib.LaidTab
import Derived.Shelf.Vars
/- What the cards of all chapters want. -/
namespace Go.Proofs.YtljidkmppeaecaaDoor
open Go Go.Proofs Go.Ua
set_option linter.unusedVariables false

theorem block_of_cell {w : World} {g : Nat} {m : Int} (h : w.cell? ⟨g, 0, none⟩ = some (.int .i64 m)) : ∃ (cs : List Value) (t : TypeId) (fz : Nat × Nat), (∃ m, cs[0]? = some (Value.int .i64 m)) ∧ w.heap[g]? = some (.cells cs.toArray t fz) := by
  unfold World.cell? at h
  split at h
  · rename_i cs t fz hb
    exact ⟨cs.toList, t, fz, ⟨m, by simpa using h⟩, by simpa using hb⟩
  · cases h

theorem ret_and_shaped {H : Type} {enc : TypeId × Value → H} {a : Assume} {C : Checked} {os : Os} {f : FuncId} {fn : Func} {s : ChangeSpec} {conds : List PathCond} {apart fresh handsOn again : Bool} {X : World → Array Value → Prop}
    (hX : ∀ (w w' : World) (args : Array Value), w.heap = w'.heap → X w args → X w' args)
    (own : ownKnob C.prog.godebug = none) (started : os.Started) (noInit : C.prog.inits.idxOf? f = none) (hfn : C.prog.funcs[f]? = some fn)
    (witness : ∃ (w : World) (tape : Tape) (i : Input), w.os = os ∧ (w.forCall tape i).Shaped C.prog ∧ i.vars = [] ∧ Input.okWide C.prog (w.forCall tape i) .any w.heap.size f i ∧
      ((s.pre enc C.prog fn conds apart (w.forCall tape i).memory i.args ∧ X (w.forCall tape i).memory i.args) ∧ sizedMet enc C.prog fn (OpenSpec.ofChange s) apart (w.forCall tape i).memory i.args) ∧ a.holds C.prog (lone (Frame.enter C.prog f i.args .normal) [] (w.forCall tape i)))
    (contract : ∀ (W : World) (base : Nat) (args : Array Value) (ds gs : List (DataW H)) (before : List MemPlace),
      (∀ (j : Nat) t v, fn.params[j]? = some t → args[j]? = some v → Value.okWide C.prog W .any base t v) →
      DataW.Whole enc C.prog fn.params.toList s.vars apart W args.toList ds gs before →
      (DataW.weightsEach C.prog (fn.params.toList ++ s.plain.varTypes C.prog) (ds ++ gs)).all (· ≤ reachBytes) = true → X W args → W.ShapedOpen C.prog →
      Calls C.prog f args W fun e W' => ∃ v, e = .returned v ∧ s.post enc C.prog fn apart fresh handsOn again W args v W') :
    ReturnsInHanded a C os f .any (fun w args => (s.pre enc C.prog fn conds apart w args ∧ X w args) ∧ sizedMet enc C.prog fn (OpenSpec.ofChange s) apart w args) (s.post enc C.prog fn apart fresh handsOn again) := by
  refine returnsInHanded_of_calls own started noInit witness ?_
  intro w tape i _ hsh _ hok hpre _
  obtain ⟨_, _, _, g, hg, _, _, _, _, hval⟩ := hok
  obtain rfl : g = fn := Option.some.inj (hg.symm.trans hfn)
  obtain ⟨⟨⟨ds, gs, before, hw, _⟩, hx⟩, hz⟩ := hpre
  refine (contract (w.forCall tape i) w.heap.size i.args ds gs before hval (DataW.Whole.of_heap (w' := w.forCall tape i) (by rfl) hw) (hz.weights hw) (hX _ _ _ (by rfl) hx) hsh).mono ?_
  rintro e W' ⟨v, he, hp⟩
  subst he
  exact ChangeSpec.post_blind hp
end Go.Proofs.YtljidkmppeaecaaDoor

/- What cards want of lists of texts, and of texts. -/
namespace Go.Proofs.YtljidkmppeaecaaDoor
open Go Go.Proofs Go.Ua Go.Extern
set_option linter.unusedVariables false

theorem typed_str {f : Nat} {l : List Dat} (h : typed tab (f + 1) 9 l) : ∃ s, l = [.s (.str s)] := by
  obtain ⟨s, rfl, _⟩ := h
  exact ⟨s, rfl⟩
end Go.Proofs.YtljidkmppeaecaaDoor

/- Chapter 10: lines that say nothing, and blanks, change nothing but the numbers of lines. -/
namespace Go.Proofs.YtljidkmppeaecaaDoor
open Go Go.Proofs Go.Ua Go.Extern
set_option linter.unusedVariables false
set_option linter.unusedSimpArgs false
theorem okLs_note {x : Wd} (hx : skipB (wordsF x) = true) : ∀ (L : List (Wd × Int)) (l : List Wd) (i : Nat), okLs l i L → okLs l i (L ++ [(x, 0)])
  | [], l, i, h => .inl ⟨rfl, hx, h⟩
  | (y, n) :: r, l, i, h => by
    rcases h with ⟨h1, h2, h3⟩ | ⟨z, l', h1, h2, h3, h4⟩
    · exact .inl ⟨h1, h2, okLs_note hx r l i h3⟩
    · exact .inr ⟨z, l', h1, h2, h3, okLs_note hx r l' (i + 1) h4⟩
theorem okLs_line {x y : Wd} (hx : wordsF x = wordsF y) : ∀ (L : List (Wd × Int)) (l : List Wd) (i : Nat), okLs l i L → okLs (l ++ [y]) i (L ++ [(x, ((i + l.length + 1 : Nat) : Int))])
  | [], l, i, h => by
    obtain rfl : l = [] := h
    exact .inr ⟨y, [], rfl, rfl, hx, rfl⟩
  | (z, n) :: r, l, i, h => by
    rcases h with ⟨h1, h2, h3⟩ | ⟨q, l', h1, h2, h3, h4⟩
    · exact .inl ⟨h1, h2, okLs_line hx r l i h3⟩
    · subst h1
      refine .inr ⟨q, l' ++ [y], rfl, h2, h3, ?_⟩
      have := okLs_line hx r l' (i + 1) h4
      rw [show i + 1 + l'.length + 1 = i + (q :: l').length + 1 by simp only [List.length_cons]; omega] at this
      exact this
/-- The long text so far: i lines of the text are told, and k lines that say nothing behind them. -/
structure Lg (l : List Wd) (i k : Nat) (L : List (Wd × Int)) : Prop where
  ok : okLs (l.take i) 0 L
  no : ∀ p, p ∈ L → (10 : UInt8) ∉ p.1
  num : L.length ≤ 3 * i + k
  len : (linesOf (L.map (·.1))).length ≤ (linesOf (l.take i)).length + 50 * i + 20 * k
theorem Lg_nil (l : List Wd) : Lg l 0 0 [] := ⟨rfl, fun p h => (by cases h), by simp, by simp [linesOf]⟩
theorem linesOf_snocX (L : List Wd) (x : Wd) : linesOf (L ++ [x]) = linesOf L ++ (x ++ [10]) := by simp [linesOf]
theorem Lg_note {l : List Wd} {i k : Nat} {L : List (Wd × Int)} (h : Lg l i k L) {x : Wd} (hx : skipB (wordsF x) = true) (hn : (10 : UInt8) ∉ x) (hl : x.length ≤ 19) : Lg l i (k + 1) (L ++ [(x, 0)]) := by
  obtain ⟨h1, h2, h3, h4⟩ := h
  refine ⟨okLs_note hx _ _ _ h1, fun p hp => ?_, by simp only [List.length_append, List.length_singleton]; omega, ?_⟩
  · rcases List.mem_append.1 hp with hp | hp
    · exact h2 p hp
    · rw [List.mem_singleton.1 hp]; exact hn
  · simp only [List.map_append, List.map_cons, List.map_nil]
    rw [linesOf_snocX, List.length_append, List.length_append, List.length_singleton]
    omega
theorem Lg_line {l : List Wd} {i k : Nat} {L : List (Wd × Int)} (h : Lg l i k L) (hk : k ≤ 2) {x y : Wd} (hy : l[i]? = some y) (hx : wordsF x = wordsF y) (hn : (10 : UInt8) ∉ x) (hl : x.length ≤ y.length + 5) : Lg l (i + 1) 0 (L ++ [(x, ((i + 1 : Nat) : Int))]) := by
  obtain ⟨h1, h2, h3, h4⟩ := h
  have hil : i < l.length := by
    have := List.getElem?_eq_some_iff.1 hy
    exact this.1
  have ht : l.take (i + 1) = l.take i ++ [y] := by rw [List.take_add_one, hy]; rfl
  have hlen : (l.take i).length = i := by rw [List.length_take]; omega
  refine ⟨?_, fun p hp => ?_, by simp only [List.length_append, List.length_singleton]; omega, ?_⟩
  · have := okLs_line hx _ _ _ h1
    rw [hlen, Nat.zero_add] at this
    rw [ht]
    exact this
  · rcases List.mem_append.1 hp with hp | hp
    · exact h2 p hp
    · rw [List.mem_singleton.1 hp]; exact hn
  · rw [ht]
    simp only [List.map_append, List.map_cons, List.map_nil]
    rw [linesOf_snocX, linesOf_snocX, List.length_append, List.length_append, List.length_append, List.length_append, List.length_singleton]
    omega
/-- Read with them, or without. -/
theorem long_same {s t : Wd} {L : List (Wd × Int)} (hs : s.length ≤ 65536) (ht : t.length ≤ 65536) (h : okLs (linesF s) 0 L) (hn : ∀ p, p ∈ L → (10 : UInt8) ∉ p.1) (hL : t = linesOf (L.map (·.1))) :
    (parF t).1 = (parF s).1 ∧ (parF t).2.1 = (parF s).2.1 ∧ (¬ (parF s).2.1 = 0 → 0 < (parF t).2.2 ∧ (L.map (·.2))[((parF t).2.2 - 1).toNat]? = some (parF s).2.2) := by
  have hl : linesF t = L.map (·.1) := by
    rw [hL]
    refine lines_ofG fun w hw => ?_
    obtain ⟨p, hp, rfl⟩ := List.mem_map.1 hw
    exact hn p hp
  have e1 : parF s = parL zeroC (linesF s) 0 := by rw [parF, if_neg (by omega)]
  have e2 : parF t = parL zeroC (L.map (·.1)) 0 := by rw [parF, if_neg (by omega), hl]
  obtain ⟨g1, g2, g3⟩ := parL_long L (linesF s) zeroC 0 0 h
  rw [e1, e2]
  refine ⟨g1, g2, fun hne => ?_⟩
  obtain ⟨g4, g5⟩ := g3 hne
  refine ⟨by omega, ?_⟩
  rw [show (parL zeroC (L.map (·.1)) 0).2.2 - 1 = (parL zeroC (L.map (·.1)) 0).2.2 - 1 - ((0 : Nat) : Int) by omega]
  exact g5
end Go.Proofs.YtljidkmppeaecaaDoor

/- Chapter 10: ConfLines. -/
namespace Go.Proofs.YtljidkmppeaecaaDoor
open Go Go.Proofs Go.Ua Go.Extern
set_option linter.unusedVariables false
set_option linter.unusedSimpArgs false
set_option maxRecDepth 10000
def atD (L : List (Wd × Int)) : List Dat := L.map fun p => .s (.int .i64 p.2)
set_option maxHeartbeats 4000000 in
set_option cbv.maxSteps 10000000 in
set_option maxRecDepth 100000 in
theorem confLines_spec (s : Wd) (bs : List Int) : ESpec Tryd.prog 5 [.d (.s (.str s)), .d (.view 1 (intDs bs))] (fun x => x = .d (.s (.bool true))) := by
  obtain ⟨uRefLines, huRefLines⟩ : ∃ u : List UInt8 → Bool, u = le32 := ⟨_, rfl⟩
  obtain ⟨uRefLines1, huRefLines1⟩ : ∃ u : List UInt8 → List Dat, u = fun w => strDs (linesF w) := ⟨_, rfl⟩
  obtain ⟨uSameCf, huSameCf⟩ : ∃ u : List Dat → List Dat → List Dat → List Dat → Bool, u = fun ls ss ks ts => isCf0 ls ss && isCf0 ks ts := ⟨_, rfl⟩
  obtain ⟨uSameCf1, huSameCf1⟩ : ∃ u : Int → Int → Int → Int → List Dat → List Dat → Int → Int → Int → Int → List Dat → List Dat → Bool, u = fun a b c d ls ss a2 b2 c2 d2 ks ts => sameC ⟨a, b, c, d, unLv ls, unSm ss⟩ ⟨a2, b2, c2, d2, unLv ks, unSm ts⟩ := ⟨_, rfl⟩
  have hG : TblOK Tryd.prog [(8, .p (φAwake10 )), (15, .p (φRefLines uRefLines uRefLines1)), (13, .p (φFCode )), (14, .p (φFLine )), (10, .p (φSameCf uSameCf uSameCf1))] := ⟨φAwake10_ok, (by rw [huRefLines, huRefLines1]; exact φRefLines_ok), φFCode_ok, φFLine_ok, (by rw [huSameCf, huSameCf1]; exact φSameCf_ok), trivial⟩
  obtain ⟨ds, hds⟩ : ∃ z, z = intDs bs := ⟨_, rfl⟩
  rw [← hds]
  have hdl : ds.length = bs.length := by rw [hds]; simp [intDs]
  refine ESpec.enter Tryd.func5 (by kernel_rfl) rfl (Nat.le_of_ble_eq_true rfl) fun hok cx hnt hfr => ?_
  obtain ⟨F, hF⟩ := real_ex
  refine AK.runT hF tabOK hmix hnt hfr false _ hG ?_
  conv => arg 4; cbv
  have hbv : ∀ (i : Nat) (n : Int), bs[i]? = some n → ds[i]? = some (.s (.int .u8 n)) ∧ 0 ≤ n ∧ n ≤ 255 := by
    intro i n hn
    have h1 : ds[i]? = some (.s (.int .u8 n)) := by rw [hds]; simp [intDs, hn]
    have h2 := Doks_iff.1 hok.2.1.2 _ (List.mem_of_getElem? h1)
    exact ⟨h1, h2.1, h2.2⟩
  refine AKt.need rfl fun _ => AKt.no (by rw [hF]; rfl) ?_
  refine AKt.node (fun c1 => ?_) (fun c1 => ?_)
  · repeat' (first | with_reducible (first | refine AKt.have ?_ | refine AKt.tt ?_ | refine AKt.ff ?_ | refine AKt.yes (by assumption) ?_ | refine AKt.no (by assumption) ?_ | refine AKt.node (fun hb => ?_) (fun hb => ?_) | refine AKt.need ?_ (fun hb => ?_) | refine AKt.leaf ?_) | ((with_reducible show _ = true); assumption))
    refine AKp.doneE tabOK hfr (by rfl) ?_
    show _ = _
    simp only [tupAV]
  have hsl : s.length ≤ 8000 := by rw [hF, f_ltI, f_lenS] at c1; have := of_decide_eq_false c1; omega
  obtain ⟨l, hl⟩ : ∃ z, z = linesF s := ⟨_, rfl⟩
  obtain ⟨es, hes⟩ : ∃ z, z = uRefLines1 s := ⟨_, rfl⟩
  have hsd : es = strDs l := by rw [hes, hl, huRefLines1]
  have hel : es.length = l.length := by rw [hsd, strDs_length]
  have hls := lines_sum s
  have hll := lines_num s
  rw [← hl] at hll
  rw [← hl] at hls
  rw [← hes]
  refine AKt.need (by rw [huRefLines]; exact decide_eq_true (by omega)) fun _ => AKt.leaf ?_
  refine AKp.enterLoop 9 ?_
  conv => arg 7; cbv
  refine AKl.invTs hF tabOK hmix hnt (Nat.le_trans (Nat.le_of_eq hfr) (Nat.le_of_ble_eq_true rfl)) [13] false _ hG (fun n vs hs => ∃ (i : Nat) (iv : Int) (tx : Wd) (L : List (Wd × Int)) (ad : List Dat), i + n = l.length ∧ iv = i ∧ Lg l i 0 L ∧ tx = linesOf (L.map (·.1)) ∧ ad = atD L ∧ vs = [(8, .d (.s (.int .i64 iv))), (7, .row 0 1), (6, .d (.s (.str tx)))] ∧ hs = [(0, .ds 3 1 ad)]) l.length ⟨0, _, [], [], [], by omega, rfl, Lg_nil l, rfl, rfl, rfl, rfl⟩ (by repeat (first | exact True.intro | refine ⟨⟨rfl, rfl⟩, ?_⟩)) (by repeat (first | exact True.intro | refine ⟨⟨rfl, rfl, rfl⟩, ?_⟩)) ?_
  rintro J n vs hs hJ ⟨i, iv, tx, L, ad, hi, hiv, hLg, htx, had, rfl, rfl⟩
  conv => arg 4; cbv
  refine exK ?K13 fun k13 hK13 => ?_
  rotate_left
  refine AKt.node (fun hb1 => ?_) (fun hb1 => ?_)
  · have hlt : i < l.length := by rw [hiv, hF, f_ltI, f_lenD, hel] at hb1; have := of_decide_eq_true hb1; omega
    have rest13 : ∀ kb : Int, 0 ≤ kb → kb ≤ 255 → AK Tryd.prog cx (finE Tryd.prog Tryd.f5 cx fun x => x = .d (.s (.bool true))) k13 ⟨[(9, .d (.s (.int .u8 kb))), (8, .d (.s (.int .i64 iv))), (7, .row 0 1), (6, .d (.s (.str tx))), (5, .d (.view 1 es)), (4, .d (.s (.bool false))), (1, .d (.view 1 ds)), (0, .d (.s (.str s)))], [(0, .ds 3 1 ad)], 1⟩ := ?r13
    · refine AKt.node (fun hb2 => ?_) (fun hb2 => ?_)
      · have hlt2 : i < bs.length := by rw [hiv, hF, f_ltI, f_lenD, hdl] at hb2; have := of_decide_eq_true hb2; omega
        obtain ⟨b, hb5⟩ : ∃ c, bs[i]? = some c := ⟨_, List.getElem?_eq_getElem hlt2⟩
        obtain ⟨g1, g2, g3⟩ := hbv i b hb5
        have hh2 : F .hasD ds iv [.int .u8] = true := t_hasD hF g1 hiv rfl
        rw [t_intA hF g1 hiv (j := 0) (s := b) (k := .u8) rfl]
        refine AKt.need hh2 fun _ => AKt.leaf ?_
        refine AKp.join hK13 _ hfr ?_ ?_ (rest13 b g2 g3)
        · repeat (first | exact True.intro | refine ⟨⟨rfl, rfl⟩, ?_⟩)
        · repeat (first | exact True.intro | refine ⟨⟨rfl, rfl, rfl⟩, ?_⟩)
      · refine AKt.leaf ?_
        refine AKp.join hK13 _ hfr ?_ ?_ (rest13 0 (by omega) (by omega))
        · repeat (first | exact True.intro | refine ⟨⟨rfl, rfl⟩, ?_⟩)
        · repeat (first | exact True.intro | refine ⟨⟨rfl, rfl, rfl⟩, ?_⟩)
    case' r13 =>
      intro kb hk0 hk255
      rw [hK13]
      obtain ⟨N, hN⟩ : ∃ z : Nat, z = (kb % 3).toNat := ⟨_, rfl⟩
      have hN2 : N ≤ 2 := by omega
      have hM : F .wrap .i64 (F .tmod kb 3) = (N : Int) := by
        rw [show F .tmod kb 3 = kb % 3 by rw [hF]; exact Int.tmod_eq_emod_of_nonneg hk0, hF]
        show IntKind.i64.wrap (kb % 3) = _
        rw [w_i64 (n := kb % 3) (by omega) (by omega)]
        omega
      refine AK.runT hF tabOK hmix hnt hfr false _ hG ?_
      conv => arg 4; cbv
      repeat' (first | with_reducible (first | refine AKt.have ?_ | refine AKt.tt ?_ | refine AKt.ff ?_ | refine AKt.yes (by assumption) ?_ | refine AKt.no (by assumption) ?_ | refine AKt.node (fun hb => ?_) (fun hb => ?_) | refine AKt.need ?_ (fun hb => ?_) | refine AKt.leaf ?_) | ((with_reducible show _ = true); assumption))
      refine AKp.enterLoop 11 ?_
      conv => arg 7; cbv
      refine AKl.invT hF tabOK hmix hnt hfr false _ hG (fun m vs hs => ∃ (k : Nat) (kv : Int) (tx : Wd) (L : List (Wd × Int)) (ad : List Dat), k + m = N ∧ kv = k ∧ Lg l i k L ∧ tx = linesOf (L.map (·.1)) ∧ ad = atD L ∧ vs = [(10, .d (.s (.int .i64 kv))), (7, .row 0 1), (6, .d (.s (.str tx)))] ∧ hs = [(0, .ds 3 1 ad)]) N ⟨0, _, tx, L, ad, by omega, rfl, hLg, htx, had, rfl, rfl⟩ (by repeat (first | exact True.intro | refine ⟨⟨rfl, rfl⟩, ?_⟩)) (by repeat (first | exact True.intro | refine ⟨⟨rfl, rfl, rfl⟩, ?_⟩)) ?_
      clear hLg htx had
      rintro J2 m vs hs hJ2 ⟨k, kv, tx, L, ad, hk, hkv, hLg, htx, had, rfl, rfl⟩
      conv => arg 4; cbv
      have hadl : ad.length = L.length := by rw [had]; exact List.length_map _
      have hti := linesOf_take l i
      have htxl : tx.length ≤ 500000 := by have := hLg.len; rw [htx]; omega
      have hLn : ad.length ≤ 30000 := by have := hLg.num; omega
      have had1 : ∀ z : Int, F .appD ad [.s (.int .i64 z)] = atD (L ++ [(([] : Wd), z)]) := fun z => by rw [hF, f_appD, had]; simp [atD]
      have hfit : ∀ z : Int, F .fits 8 (F .appD ad [.s (.int .i64 z)]) = true := fun z => t_fits hF (by rw [had1]; simp only [atD, List.length_map, List.length_append, List.length_singleton]; omega)
      refine AKt.node (fun hb3 => ?_) (fun hb3 => ?_)
      · have hkN : k < N := by rw [hkv, hM, hF, f_ltI] at hb3; have := of_decide_eq_true hb3; omega
        rw [t_app hF, t_app hF]
        refine AKt.node (fun hb4 => ?_) (fun hb4 => ?_)
        · have hn := Lg_note hLg skip_blank (by decide) (by decide)
          obtain ⟨ntx, hntx⟩ : ∃ z, z = tx ++ [32, 32, 10] := ⟨_, rfl⟩
          obtain ⟨nad, hnad⟩ : ∃ z, z = F .appD ad [.s (.int .i64 0)] := ⟨_, rfl⟩
          have hfb : F .fits 8 nad = true := by rw [hnad]; exact hfit _
          have e1 := hntx
          have e2 := hnad
          rw [htx] at e1
          rw [had1] at e2
          rw [← hntx, ← hnad]
          refine AKt.need (t_hasCat hF (by simp only [List.length_cons, List.length_nil]; omega)) fun _ => AKt.need hfb fun _ => AKt.leaf ?_
          refine AKp.againR [(0, 2)] _ hfr (by repeat (first | exact True.intro | refine ⟨⟨rfl, rfl⟩, ?_⟩)) (by repeat (first | exact True.intro | refine ⟨⟨Nat.le_of_ble_eq_true rfl, rfl, rfl⟩, ?_⟩)) rfl (hJ2 (m - 1) _ _ (by omega) ⟨k + 1, _, _, _, _, by omega, inc_i hF hkv (by omega), hn, by rw [e1]; simp [linesOf], by rw [e2]; simp [atD], rfl, rfl⟩)
        · have hn := Lg_note hLg skip_note (by decide) (by decide)
          obtain ⟨ntx, hntx⟩ : ∃ z, z = tx ++ [32, 35, 32, 108, 101, 118, 101, 108, 32, 120, 32, 101, 120, 101, 109, 112, 116, 10] := ⟨_, rfl⟩
          obtain ⟨nad, hnad⟩ : ∃ z, z = F .appD ad [.s (.int .i64 0)] := ⟨_, rfl⟩
          have hfb : F .fits 8 nad = true := by rw [hnad]; exact hfit _
          have e1 := hntx
          have e2 := hnad
          rw [htx] at e1
          rw [had1] at e2
          rw [← hntx, ← hnad]
          refine AKt.need (t_hasCat hF (by simp only [List.length_cons, List.length_nil]; omega)) fun _ => AKt.need hfb fun _ => AKt.leaf ?_
          refine AKp.againR [(0, 2)] _ hfr (by repeat (first | exact True.intro | refine ⟨⟨rfl, rfl⟩, ?_⟩)) (by repeat (first | exact True.intro | refine ⟨⟨Nat.le_of_ble_eq_true rfl, rfl, rfl⟩, ?_⟩)) rfl (hJ2 (m - 1) _ _ (by omega) ⟨k + 1, _, _, _, _, by omega, inc_i hF hkv (by omega), hn, by rw [e1]; simp [linesOf], by rw [e2]; simp [atD], rfl, rfl⟩)
      · obtain ⟨y, hy⟩ : ∃ y, l[i]? = some y := ⟨_, List.getElem?_eq_getElem hlt⟩
        have hy1 : F .strA es iv 0 = y := by rw [hsd, hiv, t_strG hF, List.getD_eq_getElem?_getD, hy]; rfl
        have hy2 : F .hasD es iv [.str] = true := by rw [hsd, hiv]; exact t_hasG hF (by omega)
        have hyl : y.length ≤ s.length := lines_le (by rw [← hl]; exact List.mem_of_getElem? hy)
        have hyn : (10 : UInt8) ∉ y := lines_no (by rw [← hl]; exact List.mem_of_getElem? hy)
        have hiv1 : F .wrap .i64 (F .add iv 1) = ((i + 1 : Nat) : Int) := inc_i hF hiv (by omega)
        rw [hy1]
        repeat rw [t_app hF]
        refine AKt.node (fun hb4 => ?_) (fun hb4 => ?_)
        · have hn := Lg_line hLg (by omega) hy (x := [32, 32, 32] ++ (y ++ [32, 32])) (by rw [words_head, words_tail]) (by simp [hyn]) (by simp only [List.length_append, List.length_cons, List.length_nil]; omega)
          obtain ⟨ntx, hntx⟩ : ∃ z, z = (tx ++ [32, 32, 32]) ++ (y ++ [32, 32, 10]) := ⟨_, rfl⟩
          obtain ⟨nad, hnad⟩ : ∃ z, z = F .appD ad [.s (.int .i64 (F .wrap .i64 (F .add iv 1)))] := ⟨_, rfl⟩
          have hfb : F .fits 8 nad = true := by rw [hnad]; exact hfit _
          have e1 := hntx
          have e2 := hnad
          rw [htx] at e1
          rw [had1, hiv1] at e2
          rw [← hntx, ← hnad]
          refine AKt.need (t_hasCat hF (by simp only [List.length_cons, List.length_nil]; omega)) fun _ => AKt.need hy2 fun _ => AKt.need (t_hasCat hF (by simp only [List.length_cons, List.length_nil]; omega)) fun _ => AKt.need (t_hasCat hF (by simp only [List.length_append, List.length_cons, List.length_nil]; omega)) fun _ => AKt.need hfb fun _ => AKt.leaf ?_
          refine AKp.againR [(0, 2)] _ hfr (by repeat (first | exact True.intro | refine ⟨⟨rfl, rfl⟩, ?_⟩)) (by repeat (first | exact True.intro | refine ⟨⟨Nat.le_of_ble_eq_true rfl, rfl, rfl⟩, ?_⟩)) rfl (hJ (n - 1) _ _ (by omega) ⟨i + 1, _, _, _, _, by omega, hiv1, hn, by rw [e1]; simp [linesOf], by rw [e2]; simp [atD], rfl, rfl⟩)
        · have hn := Lg_line hLg (by omega) hy (x := y ++ [32, 32]) (by rw [words_tail]) (by simp [hyn]) (by simp only [List.length_append, List.length_cons, List.length_nil]; omega)
          obtain ⟨ntx, hntx⟩ : ∃ z, z = tx ++ (y ++ [32, 32, 10]) := ⟨_, rfl⟩
          obtain ⟨nad, hnad⟩ : ∃ z, z = F .appD ad [.s (.int .i64 (F .wrap .i64 (F .add iv 1)))] := ⟨_, rfl⟩
          have hfb : F .fits 8 nad = true := by rw [hnad]; exact hfit _
          have e1 := hntx
          have e2 := hnad
          rw [htx] at e1
          rw [had1, hiv1] at e2
          rw [← hntx, ← hnad]
          refine AKt.need hy2 fun _ => AKt.need (t_hasCat hF (by simp only [List.length_cons, List.length_nil]; omega)) fun _ => AKt.need (t_hasCat hF (by simp only [List.length_append, List.length_cons, List.length_nil]; omega)) fun _ => AKt.need hfb fun _ => AKt.leaf ?_
          refine AKp.againR [(0, 2)] _ hfr (by repeat (first | exact True.intro | refine ⟨⟨rfl, rfl⟩, ?_⟩)) (by repeat (first | exact True.intro | refine ⟨⟨Nat.le_of_ble_eq_true rfl, rfl, rfl⟩, ?_⟩)) rfl (hJ (n - 1) _ _ (by omega) ⟨i + 1, _, _, _, _, by omega, hiv1, hn, by rw [e1]; simp [linesOf], by rw [e2]; simp [atD], rfl, rfl⟩)
  · have hge : ¬ i < l.length := by rw [hiv, hF, f_ltI, f_lenD, hel] at hb1; have := of_decide_eq_false hb1; omega
    have hi2 : l.take i = l := List.take_of_length_le (by omega)
    have hok := hLg.ok
    rw [hi2, hl] at hok
    refine AKt.node (fun hb2 => ?_) (fun hb2 => ?_)
    · repeat' (first | with_reducible (first | refine AKt.have ?_ | refine AKt.tt ?_ | refine AKt.ff ?_ | refine AKt.yes (by assumption) ?_ | refine AKt.no (by assumption) ?_ | refine AKt.node (fun hb => ?_) (fun hb => ?_) | refine AKt.need ?_ (fun hb => ?_) | refine AKt.leaf ?_) | ((with_reducible show _ = true); assumption))
      refine AKp.doneE tabOK hfr (by rfl) ?_
      show _ = _
      simp only [tupAV]
    have htl : tx.length ≤ 65536 := by rw [hF, f_ltI, f_lenS] at hb2; have := of_decide_eq_false hb2; omega
    obtain ⟨t1, t2, t3⟩ := long_same (s := s) (by omega) htl hok hLg.no htx
    obtain ⟨ln, hln⟩ : ∃ z, z = (parF s).2.2 := ⟨_, rfl⟩
    obtain ⟨lt, hlt⟩ : ∃ z, z = (parF tx).2.2 := ⟨_, rfl⟩
    obtain ⟨cd, hcd⟩ : ∃ z, z = (parF s).2.1 := ⟨_, rfl⟩
    have hadl : ad.length = L.length := by rw [had]; exact List.length_map _
    refine AKt.leaf ?_
    refine AKp.freeze 0 rfl ?_
    conv => arg 4; arg 2; cbv
    by_cases hc : (parF s).2.1 = 0
    · have hc2 : (parF tx).2.1 = 0 := by rw [t2]; exact hc
      have hC : parC tx = parC s := t1
      obtain ⟨C, hC2⟩ : ∃ z, z = parC s := ⟨_, rfl⟩
      have sp1 := parseOk_spec s (decide_eq_true hc)
      have sp2 := parseOk_spec tx (decide_eq_true hc2)
      rw [← hC2] at hC sp1
      rw [hC] at sp2
      obtain ⟨a1, ha1⟩ : ∃ z, z = C.tt := ⟨_, rfl⟩
      obtain ⟨a2, ha2⟩ : ∃ z, z = C.pe := ⟨_, rfl⟩
      obtain ⟨a3, ha3⟩ : ∃ z, z = C.pr := ⟨_, rfl⟩
      obtain ⟨a4, ha4⟩ : ∃ z, z = C.mo := ⟨_, rfl⟩
      obtain ⟨ls, hls⟩ : ∃ z, z = lvDs C.ls := ⟨_, rfl⟩
      obtain ⟨ss, hss⟩ : ∃ z, z = smDs C.ss := ⟨_, rfl⟩
      have h : isCf0 ls ss = true := by rw [hls, hss]; exact isCf_ofX C
      rw [← ha1, ← ha2, ← ha3, ← ha4, ← hls, ← hss] at sp1 sp2
      clear t1 t2 t3 hc hc2 hC
      refine AKp.call hF tabOK hnt sp1 rfl rfl rfl rfl rfl rfl rfl (by repeat' first | exact .refl _ | constructor) ?_
      rintro _ rfl
      refine AK.runT hF tabOK hmix hnt hfr true _ hG ?_
      conv => arg 4; cbv
      repeat' (first | with_reducible (first | refine AKt.have ?_ | refine AKt.tt ?_ | refine AKt.ff ?_ | refine AKt.yes (by assumption) ?_ | refine AKt.no (by assumption) ?_ | refine AKt.node (fun hb => ?_) (fun hb => ?_) | refine AKt.need ?_ (fun hb => ?_) | refine AKt.leaf ?_) | ((with_reducible show _ = true); assumption))
      refine AKp.call hF tabOK hnt sp2 rfl rfl rfl rfl rfl rfl rfl (by repeat' first | exact .refl _ | constructor) ?_
      rintro _ rfl
      refine AK.runT hF tabOK hmix hnt hfr true _ hG ?_
      conv => arg 4; cbv
      have p6 : uSameCf ls ss ls ss = true := by rw [huSameCf]; show (isCf0 ls ss && isCf0 ls ss) = true; rw [h]; rfl
      have p7 : uSameCf1 a1 a2 a3 a4 ls ss a1 a2 a3 a4 ls ss = true := by rw [huSameCf1]; exact decide_eq_true rfl
      repeat' (first | with_reducible (first | refine AKt.have ?_ | refine AKt.tt ?_ | refine AKt.ff ?_ | refine AKt.yes (by assumption) ?_ | refine AKt.no (by assumption) ?_ | refine AKt.node (fun hb => ?_) (fun hb => ?_) | refine AKt.need ?_ (fun hb => ?_) | refine AKt.leaf ?_) | ((with_reducible show _ = true); assumption))
      refine AKp.doneE tabOK hfr (by rfl) ?_
      show _ = _
      simp only [tupAV]
      rw [p7]
    · have hc2 : ¬ (parF tx).2.1 = 0 := by rw [t2]; exact hc
      obtain ⟨t4, t5⟩ := t3 hc
      have sp1 := parseBadX s ln cd hc hln hcd
      have sp2 := parseBadX tx lt cd hc2 hlt (by rw [t2]; exact hcd)
      clear t1 t2 t3 hc hc2
      refine AKp.call hF tabOK hnt sp1 rfl rfl rfl rfl rfl rfl rfl (by repeat' first | exact .refl _ | constructor) ?_
      rintro _ rfl
      refine AK.runT hF tabOK hmix hnt hfr true _ hG ?_
      conv => arg 4; cbv
      repeat' (first | with_reducible (first | refine AKt.have ?_ | refine AKt.tt ?_ | refine AKt.ff ?_ | refine AKt.yes (by assumption) ?_ | refine AKt.no (by assumption) ?_ | refine AKt.node (fun hb => ?_) (fun hb => ?_) | refine AKt.need ?_ (fun hb => ?_) | refine AKt.leaf ?_) | ((with_reducible show _ = true); assumption))
      refine AKp.call hF tabOK hnt sp2 rfl rfl rfl rfl rfl rfl rfl (by repeat' first | exact .refl _ | constructor) ?_
      rintro _ rfl
      refine AK.runT hF tabOK hmix hnt hfr true _ hG ?_
      conv => arg 4; cbv
      have f1 : F .eqI cd cd = true := by rw [hF, f_eqI]; exact beq_self_eq_true _
      have f2 : F .leI 1 lt = true := by rw [hF, f_leI, hlt]; exact decide_eq_true (by omega)
      have hb6 : ((parF tx).2.2 - 1).toNat < L.length := by
        have := (List.getElem?_eq_some_iff.1 t5).1
        rw [List.length_map] at this
        exact this
      have hLn := hLg.num
      have f3 : F .leI lt (F .lenD ad) = true := by rw [hF, f_leI, f_lenD, hadl, hlt]; exact decide_eq_true (by omega)
      obtain ⟨q, hq⟩ : ∃ z, z = ((parF tx).2.2 - 1).toNat := ⟨_, rfl⟩
      have hqv : F .wrap .i64 (F .sub lt 1) = (q : Int) := by
        rw [hF]
        show IntKind.i64.wrap (lt - 1) = _
        rw [w_i64 (by omega) (by omega)]
        omega
      have hqd : ad[q]? = some (.s (.int .i64 ln)) := by
        rw [had, atD, List.getElem?_map]
        rw [← hq, List.getElem?_map, ← hln] at t5
        cases h : L[q]? with
        | none => rw [h] at t5; cases t5
        | some p =>
          rw [h] at t5
          have e : p.2 = ln := Option.some.inj t5
          show some (Dat.s (.int .i64 p.2)) = _
          rw [e]
      have f4 : F .hasD ad (F .wrap .i64 (F .sub lt 1)) [.int .i64] = true := t_hasD hF hqd hqv rfl
      have f5 : F .intA ad (F .wrap .i64 (F .sub lt 1)) 0 = ln := t_intA hF hqd hqv (j := 0) (s := ln) (k := .i64) rfl
      have f6 : F .eqI ln ln = true := by rw [hF, f_eqI]; exact beq_self_eq_true _
      rw [f5]
      refine AKt.need rfl fun _ => AKt.need rfl fun _ => AKt.need rfl fun _ => AKt.yes f1 (AKt.yes f2 (AKt.yes f3 (AKt.need f4 fun _ => AKt.need rfl fun _ => AKt.leaf ?_)))
      refine AKp.doneE tabOK hfr (by rfl) ?_
      show _ = _
      simp only [tupAV]
      rw [f6]
end Go.Proofs.YtljidkmppeaecaaDoor

