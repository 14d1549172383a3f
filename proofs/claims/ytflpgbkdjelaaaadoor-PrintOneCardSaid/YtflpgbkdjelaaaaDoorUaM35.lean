/- The library of this claim and its walks, part 35, joined out of smaller texts. No statement stands in it. -/
import Derived.Test.YtflpgbkdjelaaaaDoorUaM30
import Derived.Test.YtflpgbkdjelaaaaDoorUaM32
import Derived.Test.YtflpgbkdjelaaaaDoorUaM34
/- strings.Builder: a fresh one holds nothing. -/
namespace Go.Proofs.YtflpgbkdjelaaaaDoor
open Go Go.Proofs Go.Ua Go.Extern Go.Shelf Go.RowKit
set_option linter.unusedVariables false
set_option linter.unusedSimpArgs false

theorem len0_spec : ASpec Tryd.prog 23 [.ptr 0 0 0 2] [(0, .cs 54 [.d (.s .ptr0), .d (.s .sl0)])] 1 (fun y h1 fr1 => y = .d (.s (.int .i64 0)) ∧ h1 = [(0, .cs 54 [.d (.s .ptr0), .d (.s .sl0)])] ∧ fr1 = 1) := by
  refine ASpec.enterK Tryd.func23 (by kernel_rfl) rfl (Nat.le_of_ble_eq_true rfl) fun hok cx hnt hfr => ?_
  obtain ⟨F, hF⟩ := real_ex
  refine AK.runTn hF tabOK hmix hnt [] false [] trivial (Nat.le_of_eq hfr) ?_
  conv => arg 4; cbv
  repeat' (first | with_reducible (first | refine AKt.have ?_ | refine AKt.tt ?_ | refine AKt.ff ?_ | refine AKt.yes (by assumption) ?_ | refine AKt.no (by assumption) ?_ | refine AKt.node (fun hb => ?_) (fun hb => ?_) | refine AKt.need ?_ (fun hb => ?_) | refine AKt.leaf ?_) | ((with_reducible show _ = true); assumption))
  first | refine AKp.doneM tabOK hfr (by rfl) (by rfl) ?_ ?_ | refine AKp.endM tabOK hfr (by rfl) (by rfl) ?_ ?_
  all_goals show _ = _
  · rfl
  · rfl
def φBLen0  : Nat → List AV → List (Nat × Blk) → Option (Bool × AV × List (Nat × Blk) × Nat)
  | 1, [.ptr 0 0 0 2], [(0, .cs 54 [.d (.s .ptr0), .d (.s .sl0)])] => some (true, .d (.s (.int .i64 0)), [(0, .cs 54 [.d (.s .ptr0), .d (.s .sl0)])], 1)
  | _, _, _ => none
theorem φBLen0_ok : MSpOK Tryd.prog 23 (φBLen0 ) := by
  intro fr xs h b x h1 fr1 h hb
  unfold φBLen0 at h
  split at h
  · simp only [Option.some.injEq, Prod.mk.injEq] at h
    obtain ⟨rfl, rfl, rfl, rfl⟩ := h
    exact len0_spec
  · cases h
section
variable {P : Program} {ρ : Ren}
set_option maxHeartbeats 2000000 in
set_option maxRecDepth 100000 in
theorem string_calls0 (L : Lays.n169 P ρ) (X : Builder.Extra P ρ) (b : Nat) (p : Value) (w : World) (hbk : w.heap[b]? = some (.cells #[p, .slice none 0 0] (ρ.t 72) (0, 0))) :
    Calls P (ρ.f 169) #[.pointer (some ⟨b, 0, none⟩)] w fun e w' => e = .returned (.string ⟨#[]⟩) ∧ Kept (fun _ => False) w w' := by
  have hUS := Any.unsafeString_none L X
  have c1 : w.drew.cell? ⟨b, 1, none⟩ = some (.slice none 0 0) := by
    have : w.drew.heap[b]? = some (.cells #[p, .slice none 0 0] (ρ.t 72) (0, 0)) := hbk
    rw [Lib.cell_of_heap this]; rfl
  have hSD : (Builtin.unsafeSliceData_ #[(ρ.t 37)] (ρ.t 127) #[.slice none 0 0]).run P w.drew = .ok (.pointer none) w.drew := rfl
  have mixed := L.mixed
  have t72 := L.t72; have a72 := L.a72; have z72 := L.z72; have v72 := L.v72; have u72 := run_underlying L.t72
  have t70 := L.t70; have a70 := L.a70; have z70 := L.z70; have v70 := L.v70; have u70 := run_underlying L.t70
  have t37 := L.t37; have a37 := L.a37; have z37 := L.z37; have v37 := L.v37; have u37 := run_underlying L.t37
  have t127 := L.t127; have a127 := L.a127; have z127 := L.z127; have v127 := L.v127; have u127 := run_underlying L.t127
  have t3 := L.t3; have a3 := L.a3; have z3 := L.z3; have v3 := L.v3; have u3 := run_underlying L.t3
  have t9 := L.t9; have a9 := L.a9; have z9 := L.z9; have v9 := L.v9; have u9 := run_underlying L.t9
  have t5 := X.t5; have a5 := X.a5; have z5 := X.z5; have v5 := X.v5; have u5 := run_underlying X.t5
  go_enter L.f169, Body.n169_ntmps ρ
  go_wp2
  go_region_o
  all_goals (go_wp2; go_ret; exact ⟨rfl, kept_drew (Kept.refl _ w)⟩)
end
theorem string0_spec : ASpec Tryd.prog 24 [.ptr 0 0 0 2] [(0, .cs 54 [.d (.s .ptr0), .d (.s .sl0)])] 1 (fun y h1 fr1 => y = .d (.s (.str [])) ∧ h1 = [] ∧ fr1 = 1) := by
  refine ⟨enters_of Tryd.func24 (by kernel_rfl) rfl, fun X L w ι vs h1 hg h2 h3 => ?_⟩
  obtain ⟨v, rfl⟩ : ∃ v, vs = [v] := by
    match vs, h2 with
    | [v], _ => exact ⟨v, rfl⟩
  have hv := h3 0 _ v rfl rfl
  have hB := h1.hp 0 _ (show Go.Ua.look 0 ([(0, .cs 54 [.d (.s .ptr0), .d (.s .sl0)])] : List (Nat × Blk)) = some _ from rfl)
  cases hv with
  | ptr _ _ _ _ b c l hi =>
  cases hB with
  | cs _ _ b' cap l' cur hi' hb hl hone hr =>
  rw [hi] at hi'
  cases hi'
  obtain ⟨c0, c1, rfl⟩ : ∃ c0 c1, cur = [c0, c1] := by
    match cur, hl with
    | [c0, c1], _ => exact ⟨c0, c1, rfl⟩
  have r1 := rep_s (hr 1 _ c1 rfl rfl)
  obtain rfl : c1 = .slice none 0 0 := r1
  show Calls Tryd.prog 24 #[.pointer (some ⟨b, 0 * 2 + 0, none⟩)] w _
  rw [show 0 * 2 + 0 = 0 from rfl]
  refine Calls.mono (string_calls0 lays169 Tryd.Builder_Extra_156 b c0 w hb) ?_
  · rintro e w' ⟨rfl, hkept⟩
    refine ⟨_, _, [], 1, ι, rfl, ⟨rfl, rfl, rfl⟩, .d _ _ (.s (.str []) (Nat.zero_le _)), ?_⟩
    refine h1.step (ι' := ι) (Y := fun _ => False) (fun _ _ h => h) (fun k hk hbad => ⟨hkept.block k hk (fun e => e), ?_⟩) (fun n B hn => by simp [Go.Ua.look] at hn) (fun n m b c l c' l' hn => by simp [Go.Ua.look] at hn) (fun n b c l hn => by simp [Go.Ua.look] at hn) h1.fresh hkept (fun n hn => ?_)
    · rintro (hL | ⟨n, c, l, hn, _⟩)
      · exact hbad (.inl hL)
      · simp [Go.Ua.look] at hn
    · exact hn.elim
def φBString0  : Nat → List AV → List (Nat × Blk) → Option (Bool × AV × List (Nat × Blk) × Nat)
  | 1, [.ptr 0 0 0 2], [(0, .cs 54 [.d (.s .ptr0), .d (.s .sl0)])] => some (true, .d (.s (.str [])), [], 1)
  | _, _, _ => none
theorem φBString0_ok : MSpOK Tryd.prog 24 (φBString0 ) := by
  intro fr xs h b x h1 fr1 h hb
  unfold φBString0 at h
  split at h
  · simp only [Option.some.injEq, Prod.mk.injEq] at h
    obtain ⟨rfl, rfl, rfl, rfl⟩ := h
    exact string0_spec
  · cases h
end Go.Proofs.YtflpgbkdjelaaaaDoor

/- What the document calls formed: the walk. -/
namespace Go.Proofs.YtflpgbkdjelaaaaDoor
open Go Go.Proofs Go.Ua Go.Extern
set_option linter.unusedVariables false
set_option linter.unusedSimpArgs false
set_option maxRecDepth 10000

def smP (a b c d : Int) (ls ss : List Dat) : Bool := isCf0 ls ss && smallF ⟨a, b, c, d, unLv ls, unSm ss⟩
end Go.Proofs.YtflpgbkdjelaaaaDoor

/- print.Print: a configuration that tells nothing; all of it. -/
namespace Go.Proofs.YtflpgbkdjelaaaaDoor
open Go Go.Proofs Go.Ua Go.Extern Go.Shelf
set_option linter.unusedVariables false
set_option linter.unusedSimpArgs false
set_option maxRecDepth 10000
theorem cfW_nil {c : Cf} (h : cfW c = []) : c = ⟨0, 0, 0, c.mo, [], []⟩ := by
  obtain ⟨tt, pe, pr, mo, ls, ss⟩ := c
  simp only [cfW, headW, List.append_eq_nil_iff, List.map_eq_nil_iff] at h
  obtain ⟨⟨a, b, d⟩, e, f⟩ := h
  have h1 : tt = 0 := by
    by_cases hn : tt = 0
    · exact hn
    · rw [if_neg hn] at a; cases a
  have h2 : pe = 0 := by
    by_cases hn : pe = 0
    · exact hn
    · rw [if_neg hn] at b; cases b
  have h3 : pr = 0 := by
    by_cases hn : pr = 0
    · exact hn
    · rw [if_neg hn] at d; cases d
  have h4 : ss = [] := by
    cases ss with
    | nil => rfl
    | cons x r => simp [schW] at f
  rw [h1, h2, h3, e, h4]
set_option maxHeartbeats 4000000 in
set_option cbv.maxSteps 10000000 in
theorem print_spec0 (tt pe pr mo : Int) (ld sd : List Dat) (htt : tt = 0) (hpe : pe = 0) (hpr : pr = 0) (hld : ld = []) (hsd : sd = []) (hf : formC ⟨tt, pe, pr, mo, [], []⟩ = true) : ESpec Tryd.prog 10 [.d (.agg [.s (.int .i64 tt), .s (.int .i64 pe), .s (.int .i64 pr), .s (.int .i64 mo), .view 10 ld, .view 5 sd])] (fun x => x = .tup [.d (.s (.str [])), .d (.s (.int .i64 0))]) := by
  obtain ⟨uPFormed, huPFormed⟩ : ∃ u : List Dat → List Dat → Bool, u = isCf := ⟨_, rfl⟩
  obtain ⟨uPFormed1, huPFormed1⟩ : ∃ u : Int → Int → Int → Int → List Dat → List Dat → Bool, u = fun a b c d ls ss => formC (cfOf a b c d ls ss) := ⟨_, rfl⟩
  have hG : TblOK Tryd.prog [(12, .p (φPFormed uPFormed uPFormed1)), (23, .m (φBLen0 )), (24, .m (φBString0 ))] := ⟨(by rw [huPFormed, huPFormed1]; exact φPFormed_ok), φBLen0_ok, φBString0_ok, trivial⟩
  refine ESpec.enter Tryd.func10 (by kernel_rfl) rfl (Nat.le_of_ble_eq_true rfl) fun hok cx hnt hfr => ?_
  obtain ⟨F, hF⟩ := real_ex
  refine AK.runTs hF tabOK hmix hnt hfr [4,6,8,10,15,31] false _ hG ?_
  conv => arg 4; cbv
  have q0 : uPFormed ld sd = true := by rw [huPFormed, hld, hsd]; rfl
  have e0 : uPFormed1 tt pe pr mo ld sd = true := by
    rw [huPFormed1]
    show formC (cfOf tt pe pr mo ld sd) = true
    rw [cfOf, hld, hsd]
    exact hf
  rw [e0]
  refine AKt.need q0 fun _ => AKt.no (by rw [hF]; rfl) ?_
  repeat' (first | with_reducible (first | refine AKt.have ?_ | refine AKt.tt ?_ | refine AKt.ff ?_ | refine AKt.yes (by assumption) ?_ | refine AKt.no (by assumption) ?_ | refine AKt.node (fun hb => ?_) (fun hb => ?_) | refine AKt.need ?_ (fun hb => ?_) | refine AKt.leaf ?_) | ((with_reducible show _ = true); assumption))
  refine AK.runTs hF tabOK hmix hnt hfr [6,8,10,15,31] false _ hG ?_
  conv => arg 4; cbv
  refine AKt.no (by rw [hF, htt]; rfl) ?_
  repeat' (first | with_reducible (first | refine AKt.have ?_ | refine AKt.tt ?_ | refine AKt.ff ?_ | refine AKt.yes (by assumption) ?_ | refine AKt.no (by assumption) ?_ | refine AKt.node (fun hb => ?_) (fun hb => ?_) | refine AKt.need ?_ (fun hb => ?_) | refine AKt.leaf ?_) | ((with_reducible show _ = true); assumption))
  refine AK.runTs hF tabOK hmix hnt hfr [8,10,15,31] false _ hG ?_
  conv => arg 4; cbv
  refine AKt.no (by rw [hF, hpe]; rfl) ?_
  repeat' (first | with_reducible (first | refine AKt.have ?_ | refine AKt.tt ?_ | refine AKt.ff ?_ | refine AKt.yes (by assumption) ?_ | refine AKt.no (by assumption) ?_ | refine AKt.node (fun hb => ?_) (fun hb => ?_) | refine AKt.need ?_ (fun hb => ?_) | refine AKt.leaf ?_) | ((with_reducible show _ = true); assumption))
  refine AK.runTs hF tabOK hmix hnt hfr [10,15,31] false _ hG ?_
  conv => arg 4; cbv
  refine AKt.no (by rw [hF, hpr]; rfl) ?_
  repeat' (first | with_reducible (first | refine AKt.have ?_ | refine AKt.tt ?_ | refine AKt.ff ?_ | refine AKt.yes (by assumption) ?_ | refine AKt.no (by assumption) ?_ | refine AKt.node (fun hb => ?_) (fun hb => ?_) | refine AKt.need ?_ (fun hb => ?_) | refine AKt.leaf ?_) | ((with_reducible show _ = true); assumption))
  refine AK.runTs hF tabOK hmix hnt hfr [15,31] false _ hG ?_
  conv => arg 4; cbv
  repeat' (first | with_reducible (first | refine AKt.have ?_ | refine AKt.tt ?_ | refine AKt.ff ?_ | refine AKt.yes (by assumption) ?_ | refine AKt.no (by assumption) ?_ | refine AKt.node (fun hb => ?_) (fun hb => ?_) | refine AKt.need ?_ (fun hb => ?_) | refine AKt.leaf ?_) | ((with_reducible show _ = true); assumption))
  refine AKp.unroll 1 fun Ja0 na0 => ?_
  refine AK.runTs hF tabOK hmix hnt hfr [15,31] false _ hG ?_
  conv => arg 4; cbv
  refine AKt.no (by rw [hF, hld]; rfl) ?_
  repeat' (first | with_reducible (first | refine AKt.have ?_ | refine AKt.tt ?_ | refine AKt.ff ?_ | refine AKt.yes (by assumption) ?_ | refine AKt.no (by assumption) ?_ | refine AKt.node (fun hb => ?_) (fun hb => ?_) | refine AKt.need ?_ (fun hb => ?_) | refine AKt.leaf ?_) | ((with_reducible show _ = true); assumption))
  refine AK.runTs hF tabOK hmix hnt hfr [31] false _ hG ?_
  conv => arg 4; cbv
  repeat' (first | with_reducible (first | refine AKt.have ?_ | refine AKt.tt ?_ | refine AKt.ff ?_ | refine AKt.yes (by assumption) ?_ | refine AKt.no (by assumption) ?_ | refine AKt.node (fun hb => ?_) (fun hb => ?_) | refine AKt.need ?_ (fun hb => ?_) | refine AKt.leaf ?_) | ((with_reducible show _ = true); assumption))
  refine AKp.unroll 1 fun Jb0 nb0 => ?_
  refine AK.runTs hF tabOK hmix hnt hfr [31] false _ hG ?_
  conv => arg 4; cbv
  refine AKt.no (by rw [hF, hsd]; rfl) ?_
  repeat' (first | with_reducible (first | refine AKt.have ?_ | refine AKt.tt ?_ | refine AKt.ff ?_ | refine AKt.yes (by assumption) ?_ | refine AKt.no (by assumption) ?_ | refine AKt.node (fun hb => ?_) (fun hb => ?_) | refine AKt.need ?_ (fun hb => ?_) | refine AKt.leaf ?_) | ((with_reducible show _ = true); assumption))
  refine AK.runT hF tabOK hmix hnt hfr false _ hG ?_
  conv => arg 4; cbv
  refine AKt.need rfl fun _ => ?_
  refine AKt.no (by rw [hF]; rfl) ?_
  refine AKt.need rfl fun _ => ?_
  repeat' (first | with_reducible (first | refine AKt.have ?_ | refine AKt.tt ?_ | refine AKt.ff ?_ | refine AKt.yes (by assumption) ?_ | refine AKt.no (by assumption) ?_ | refine AKt.node (fun hb => ?_) (fun hb => ?_) | refine AKt.need ?_ (fun hb => ?_) | refine AKt.leaf ?_) | ((with_reducible show _ = true); assumption))
  refine AKp.doneE tabOK hfr (by rfl) ?_
  show _ = _
  simp only [tupAV]
theorem print_specF (c : Cf) : ESpec Tryd.prog 10 [.d (.agg [.s (.int .i64 c.tt), .s (.int .i64 c.pe), .s (.int .i64 c.pr), .s (.int .i64 c.mo), .view 10 (lvDs c.ls), .view 5 (smDs c.ss)])] (fun x => x = .tup [.d (.s (.str (prS c))), .d (.s (.int .i64 (prE c)))]) := by
  by_cases h : formC c = true ∧ cfW c = []
  · obtain ⟨h1, h2⟩ := h
    have e1 : prS c = [] := by rw [prS, if_neg (by rw [h1]; decide), h2]; rfl
    have e2 : prE c = 0 := by rw [prE, if_neg (by rw [h1]; decide), h2]; rfl
    rw [e1, e2]
    have e3 := cfW_nil h2
    rw [e3] at h1 ⊢
    exact print_spec0 0 0 0 c.mo [] [] rfl rfl rfl rfl rfl h1
  · exact print_spec1 c fun a b => h ⟨a, b⟩
theorem print_spec (c : Cf) (hp : smallF c = true) : ESpec Tryd.prog 10 [.d (.agg [.s (.int .i64 c.tt), .s (.int .i64 c.pe), .s (.int .i64 c.pr), .s (.int .i64 c.mo), .view 10 (lvDs c.ls), .view 5 (smDs c.ss)])] (fun x => x = .tup [.d (.s (.str (prS c))), .d (.s (.int .i64 (prE c)))]) := print_specF c
theorem printD_spec (a b c d : Int) (ls ss : List Dat) (h : smP a b c d ls ss = true) : ESpec Tryd.prog 10 [.d (.agg [.s (.int .i64 a), .s (.int .i64 b), .s (.int .i64 c), .s (.int .i64 d), .view 10 ls, .view 5 ss])] (fun x => x = .tup [.d (.s (.str (prS ⟨a, b, c, d, unLv ls, unSm ss⟩))), .d (.s (.int .i64 (prE ⟨a, b, c, d, unLv ls, unSm ss⟩)))]) := by
  simp only [smP, isCf0, Bool.and_eq_true] at h
  have := print_spec ⟨a, b, c, d, unLv ls, unSm ss⟩ h.2
  simp only [lv_un h.1.1, sm_un h.1.2] at this
  exact this
def φPrint (p : Int → Int → Int → Int → List Dat → List Dat → Bool) (u : Int → Int → Int → Int → List Dat → List Dat → Wd) (e : Int → Int → Int → Int → List Dat → List Dat → Int) : List AV → Option (Bool × AV)
  | [.d (.agg [.s (.int .i64 a), .s (.int .i64 b), .s (.int .i64 c), .s (.int .i64 d), .view 10 ls, .view 5 ss])] => some (p a b c d ls ss, .tup [.d (.s (.str (u a b c d ls ss))), .d (.s (.int .i64 (e a b c d ls ss)))])
  | _ => none
theorem φPrint_ok : SpOK Tryd.prog 10 (φPrint (smP) (fun a b c d ls ss => prS ⟨a, b, c, d, unLv ls, unSm ss⟩) (fun a b c d ls ss => prE ⟨a, b, c, d, unLv ls, unSm ss⟩)) := by
  intro xs b x h hb
  unfold φPrint at h
  split at h
  · simp only [Option.some.injEq, Prod.mk.injEq] at h
    obtain ⟨rfl, rfl⟩ := h
    exact printD_spec _ _ _ _ _ _ hb
  · cases h
theorem printF_spec (a b c d : Int) (ls ss : List Dat) (h : isCf0 ls ss = true) : ESpec Tryd.prog 10 [.d (.agg [.s (.int .i64 a), .s (.int .i64 b), .s (.int .i64 c), .s (.int .i64 d), .view 10 ls, .view 5 ss])] (fun x => x = .tup [.d (.s (.str (prS ⟨a, b, c, d, unLv ls, unSm ss⟩))), .d (.s (.int .i64 (prE ⟨a, b, c, d, unLv ls, unSm ss⟩)))]) := by
  simp only [isCf0, Bool.and_eq_true] at h
  have := print_specF ⟨a, b, c, d, unLv ls, unSm ss⟩
  simp only [lv_un h.1, sm_un h.2] at this
  exact this
def φPrintF (p : List Dat → List Dat → Bool) (u : Int → Int → Int → Int → List Dat → List Dat → Wd) (e : Int → Int → Int → Int → List Dat → List Dat → Int) : List AV → Option (Bool × AV)
  | [.d (.agg [.s (.int .i64 a), .s (.int .i64 b), .s (.int .i64 c), .s (.int .i64 d), .view 10 ls, .view 5 ss])] => some (p ls ss, .tup [.d (.s (.str (u a b c d ls ss))), .d (.s (.int .i64 (e a b c d ls ss)))])
  | _ => none
theorem φPrintF_ok : SpOK Tryd.prog 10 (φPrintF (isCf0) (fun a b c d ls ss => prS ⟨a, b, c, d, unLv ls, unSm ss⟩) (fun a b c d ls ss => prE ⟨a, b, c, d, unLv ls, unSm ss⟩)) := by
  intro xs b x h hb
  unfold φPrintF at h
  split at h
  · simp only [Option.some.injEq, Prod.mk.injEq] at h
    obtain ⟨rfl, rfl⟩ := h
    exact printF_spec _ _ _ _ _ _ hb
  · cases h
end Go.Proofs.YtflpgbkdjelaaaaDoor

/- The document's Print: the walk. -/
namespace Go.Proofs.YtflpgbkdjelaaaaDoor
open Go Go.Proofs Go.Ua Go.Extern
set_option linter.unusedVariables false
set_option linter.unusedSimpArgs false
set_option maxRecDepth 10000
end Go.Proofs.YtflpgbkdjelaaaaDoor

/- Chapter 11: what is awake; any configuration is printed, or refused, as the document says. -/
namespace Go.Proofs.YtflpgbkdjelaaaaDoor
open Go Go.Proofs Go.Ua Go.Extern Go.Shelf
set_option linter.unusedVariables false
set_option linter.unusedSimpArgs false
set_option maxRecDepth 10000

def awL : List Dat := [.agg [.s (.str [97]), .s (.int .i64 2), .s (.int .i64 5), .s (.int .i64 0), .s (.int .i64 (-1)), .s (.int .i64 0), .s (.int .i64 0), .s (.int .i64 0), .s (.int .i64 0), .s (.int .i64 0)]]
def awW : Wd := [116, 111, 116, 97, 108, 32, 49, 48, 10, 108, 101, 118, 101, 108, 32, 97, 32, 53, 32, 48, 32, 97, 108, 108, 32, 114, 101, 106, 101, 99, 116, 10]
def awC : Cf := ⟨10, 0, 0, 0, [⟨[97], 2, 5, 0, -1, 0, 0, 0, 0, 0⟩], []⟩
theorem awP : smP 10 0 0 0 awL [] = true := by kernel_rfl
theorem awF : formC awC = true := by kernel_rfl
theorem awT : txtW (cfW awC) = awW := by kernel_rfl
theorem awS : prS awC = awW := by
  rw [prS, if_neg (by rw [awF]; decide), awT]
  exact if_neg (by decide)
theorem awE : prE awC = 0 := by
  rw [prE, if_neg (by rw [awF]; decide), awT]
  exact if_neg (by decide)
set_option cbv.maxSteps 10000000 in
theorem awake11_spec : ESpec Tryd.prog 7 [] (fun x => x = .d (.s (.bool true))) := by
  obtain ⟨uPrint, huPrint⟩ : ∃ u : Int → Int → Int → Int → List Dat → List Dat → Bool, u = smP := ⟨_, rfl⟩
  obtain ⟨uPrint1, huPrint1⟩ : ∃ u : Int → Int → Int → Int → List Dat → List Dat → Wd, u = fun a b c d ls ss => prS ⟨a, b, c, d, unLv ls, unSm ss⟩ := ⟨_, rfl⟩
  obtain ⟨uPrint2, huPrint2⟩ : ∃ u : Int → Int → Int → Int → List Dat → List Dat → Int, u = fun a b c d ls ss => prE ⟨a, b, c, d, unLv ls, unSm ss⟩ := ⟨_, rfl⟩
  have hG : TblOK Tryd.prog [(10, .p (φPrint uPrint uPrint1 uPrint2))] := ⟨(by rw [huPrint, huPrint1, huPrint2]; exact φPrint_ok), trivial⟩
  refine ESpec.enter Tryd.func7 (by kernel_rfl) rfl (Nat.le_of_ble_eq_true rfl) fun hok cx hnt hfr => ?_
  obtain ⟨F, hF⟩ := real_ex
  refine AK.runT hF tabOK hmix hnt hfr true _ hG ?_
  conv => arg 4; cbv
  have q1 : uPrint 10 0 0 0 awL [] = true := by rw [huPrint]; exact awP
  have q2 : uPrint1 10 0 0 0 awL [] = awW := by rw [huPrint1]; exact awS
  have q3 : uPrint2 10 0 0 0 awL [] = 0 := by rw [huPrint2]; exact awE
  change AKt _ _ _ (.need (uPrint 10 0 0 0 awL []) _)
  refine AKt.need q1 fun _ => ?_
  refine AKt.yes (show F .eqI (uPrint2 10 0 0 0 awL []) 0 = true by rw [q3, hF]; rfl) ?_
  repeat' (first | with_reducible (first | refine AKt.have ?_ | refine AKt.tt ?_ | refine AKt.ff ?_ | refine AKt.yes (by assumption) ?_ | refine AKt.no (by assumption) ?_ | refine AKt.node (fun hb => ?_) (fun hb => ?_) | refine AKt.need ?_ (fun hb => ?_) | refine AKt.leaf ?_) | ((with_reducible show _ = true); assumption))
  refine AKp.doneE tabOK hfr (by rfl) ?_
  show _ = _
  simp only [tupAV]
  have q4 : F .eqS (uPrint1 10 0 0 0 awL []) awW = true := by rw [q2, hF]; rfl
  exact congrArg (fun z => AV.d (.s (.bool z))) q4
def φAwake11  : List AV → Option (Bool × AV)
  | [] => some (true, .d (.s (.bool true)))
  | _ => none
theorem φAwake11_ok : SpOK Tryd.prog 7 (φAwake11 ) := by
  intro xs b x h hb
  unfold φAwake11 at h
  split at h
  · simp only [Option.some.injEq, Prod.mk.injEq] at h
    obtain ⟨rfl, rfl⟩ := h
    exact awake11_spec
  · cases h
end Go.Proofs.YtflpgbkdjelaaaaDoor

