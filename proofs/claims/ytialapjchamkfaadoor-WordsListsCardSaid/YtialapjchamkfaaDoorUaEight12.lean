/- A piece of an array that nobody writes from now on; formatBits at base 16. -/
import Derived.Test.YtialapjchamkfaaDoorUaEight11
namespace Go.Proofs.YtialapjchamkfaaDoor
open Go Go.Proofs Go.Ua Go.Extern
set_option linter.unusedVariables false
set_option linter.unusedSimpArgs false

def isSc : Dat → Bool
  | .s _ => true
  | _ => false
theorem isSc_cells {cs : List Dat} (h : cs.all isSc = true) : ∀ c, c ∈ cs → c.cells = [c] := by
  intro c hc
  have := List.all_eq_true.1 h c hc
  cases c <;> first | rfl | (simp [isSc] at this)

theorem AKp.sliceArr {cx : Cx Tryd.prog} {Q : Exit → Act → World → Prop} {F : Fam} (hF : F = Fam.real) {nn : Nat} (hn : cx.nt = nn) {all r : List Oper} {k : List KI} {S : St} {o : Oper} {x lo : Operand} {t T n kk : Nat} {cells : List AV} {cs : List Dat} (i : Nat)
    (ho : o.op = .slice t x (some lo) none none) (hg : guardB all S o = some true) (hd : dstB nn o = true) (hx : evl S x = .ptr n 0 0 kk) (hlo : evl S lo = .d (.s (.int .i64 (i : Int))))
    (hb : Ua.look n S.h = some (.cs T cells)) (hc : unDs cells = some cs) (hi : i < cs.length) (hm : cs.length ≤ maxLen)
    (hrun : ∀ (b : Nat) (w : World), (Instr.sliceAt t (.pointer (some ⟨b, 0, none⟩)) (some (.int .i64 (i : Int))) none none).run Tryd.prog w = .ok (.slice (some ⟨b, i, none⟩) (cs.length - i) (cs.length - i)) w)
    (h0 : cs.all isSc = true)
    (next : AKp Tryd.prog cx Q (runC (Ar.of F) tab nn 100000 (.ops all r :: k) ((⟨S.t, del n S.h, S.fr⟩ : St).put o.dst (.d (.view 1 (cs.drop i)))))) : AKp Tryd.prog cx Q (.ops all (o :: r) :: k, S) := by
  have h1 := isSc_cells h0
  refine AKp.op (S' := ⟨S.t, del n S.h, S.fr⟩) hF tabOK hn hg hd (fun ι a w HR => ?_) next
  have e1 := HR.evl x
  have e2 := HR.evl lo
  rw [hx] at e1
  rw [hlo] at e2
  have e3 : a.eval lo = .int .i64 (i : Int) := rep_s e2
  have e4 := HR.hr.box hb hc e1
  generalize hv : a.eval x = v at e1 e4
  cases e1 with
  | ptr _ _ _ _ b c l hι =>
    have e0 : 0 * kk + 0 = 0 := by simp
    rw [e0] at hv e4
    rw [List.drop_zero] at e4
    cases e4 with
    | vref _ _ _ f hr h =>
      refine ⟨.slice (some ⟨b, i, none⟩) (cs.length - i) (cs.length - i), w, ι, ?_, HR.forget n, ?_⟩
      · simp only [execOp, ho, hv, e3, Option.map]
        have := hrun b w
        simp only [Sem.run_bind, this, Result.andThen_ok, Sem.run_pure]
      · have hl : (cs.drop i).length = cs.length - i := by simp
        rw [← hl]
        refine .d _ _ (.view 1 (cs.drop i) ⟨b, i, none⟩ _ (fun j _ => f (i + j)) (Nat.le_refl _) (by rw [hl]; omega) (fun _ => rfl) (fun j e he => ?_) (fun j e q c he hq => ?_) (fun j e q c he hq => ?_))
        · rw [List.getElem?_drop] at he
          rw [h1 e (List.mem_of_getElem? he)]; rfl
        · rw [List.getElem?_drop] at he
          rw [h1 e (List.mem_of_getElem? he)] at hq
          have : q = 0 ∧ e = c := by
            match q, hq with
            | 0, hq => exact ⟨rfl, Option.some.inj hq⟩
            | q + 1, hq => simp at hq
          obtain ⟨rfl, rfl⟩ := this
          have := hr (i + j) e he
          simpa using this
        · rw [List.getElem?_drop] at he
          rw [h1 e (List.mem_of_getElem? he)] at hq
          have : q = 0 ∧ e = c := by
            match q, hq with
            | 0, hq => exact ⟨rfl, Option.some.inj hq⟩
            | q + 1, hq => simp at hq
          obtain ⟨rfl, rfl⟩ := this
          exact h (i + j) e he

theorem formatBits255 : ESpec Tryd.prog 70 [.d (.s .sl0), .d (.s (.int .u64 255)), .d (.s (.int .i64 16)), .d (.s (.bool false)), .d (.s (.bool false))] (fun x => x = .tup [.d (.s .sl0), .d (.s (.str [102, 102]))]) := by
  refine ESpec.enter Tryd.func70 (by kernel_rfl) rfl (Nat.le_of_ble_eq_true rfl) fun _ cx hnt hfr => ?_
  obtain ⟨F, hF⟩ := real_ex
  refine AK.run hF tabOK hnt ?_
  conv => arg 4; cbv
  rw [show F .ltI 16 2 = false by rw [hF]; decide +kernel]
  conv => arg 4; cbv
  rw [show F .eqI 16 10 = false by rw [hF]; decide +kernel]
  conv => arg 4; cbv
  rw [show F .ltI 36 16 = false by rw [hF]; decide +kernel]
  conv => arg 4; cbv
  refine AKp.call hF tabOK hnt isPow_spec rfl rfl rfl rfl rfl rfl rfl (by repeat' first | exact .refl _ | constructor) ?_
  rintro _ rfl
  conv => arg 4; cbv
  rw [show F .wrap .u64 16 = 16 by rw [hF]; decide +kernel]
  conv => arg 4; cbv
  refine AKp.call hF tabOK hnt TZ_spec rfl rfl rfl rfl rfl rfl rfl (by repeat' first | exact .refl _ | constructor) ?_
  rintro _ rfl
  conv => arg 4; cbv
  rw [show F .wrap .u64 16 = 16 by rw [hF]; decide +kernel]
  rw [show F .wrap .u64 4 = 4 by rw [hF]; decide +kernel]
  rw [show F .wrap .u64 (F .sub 16 1) = 15 by rw [hF]; decide +kernel]
  refine AKp.enterLoop 30 ?_
  conv => arg 7; cbv
  refine AKl.inv hF tabOK hnt hfr (fun n vs hs => (n = 1 ∧ vs = [(1, .d (.s (.int .u64 255))), (13, .d (.s (.int .i64 65)))] ∧ hs = [(0, .cs 96 (List.replicate 65 (.d (.s (.int .u8 0)))))]) ∨ (n = 0 ∧ vs = [(1, .d (.s (.int .u64 15))), (13, .d (.s (.int .i64 64)))] ∧ hs = [(0, .cs 96 (List.replicate 64 (.d (.s (.int .u8 0))) ++ [.d (.s (.int .u8 102))]))])) 1
    (.inl ⟨rfl, rfl, rfl⟩) (by repeat (first | exact True.intro | refine ⟨⟨rfl, rfl⟩, ?_⟩)) (by repeat (first | exact True.intro | refine ⟨⟨rfl, rfl, rfl⟩, ?_⟩)) ?_
  rintro J n vs hs hJ (⟨rfl, rfl, rfl⟩ | ⟨rfl, rfl, rfl⟩)
  · conv => arg 4; cbv
    rw [show F .leI 16 255 = true by rw [hF]; decide +kernel]
    conv => arg 4; cbv
    rw [show F .getS [48, 49, 50, 51, 52, 53, 54, 55, 56, 57, 97, 98, 99, 100, 101, 102, 103, 104, 105, 106, 107, 108, 109, 110, 111, 112, 113, 114, 115, 116, 117, 118, 119, 120, 121, 122] (F .bits .and .u64 255 15) = some 102 by rw [hF]; decide +kernel]
    conv => arg 4; cbv
    rw [show F .wrap .i64 (F .sub 65 1) = 64 by rw [hF]; decide +kernel, show F .inB 64 65 = some 64 by rw [hF]; decide +kernel]
    conv => arg 4; cbv
    rw [show F .shr .u64 255 4 = some 15 by rw [hF]; decide +kernel]
    conv => arg 4; cbv
    exact AKp.again _ hfr (by repeat (first | exact True.intro | refine ⟨⟨rfl, rfl⟩, ?_⟩)) (by repeat (first | exact True.intro | refine ⟨⟨rfl, rfl, rfl⟩, ?_⟩)) (hJ 0 _ _ (by decide) (.inr ⟨rfl, rfl, rfl⟩))
  · conv => arg 4; cbv
    rw [show F .leI 16 15 = false by rw [hF]; decide +kernel]
    conv => arg 4; cbv
    rw [show F .getS [48, 49, 50, 51, 52, 53, 54, 55, 56, 57, 97, 98, 99, 100, 101, 102, 103, 104, 105, 106, 107, 108, 109, 110, 111, 112, 113, 114, 115, 116, 117, 118, 119, 120, 121, 122] 15 = some 102 by rw [hF]; decide +kernel]
    conv => arg 4; cbv
    rw [show F .wrap .i64 (F .sub 64 1) = 63 by rw [hF]; decide +kernel, show F .inB 63 65 = some 63 by rw [hF]; decide +kernel]
    conv => arg 4; cbv
    refine AKp.sliceArr hF hnt 63 rfl rfl rfl rfl rfl rfl rfl (Nat.le_of_ble_eq_true rfl) (Nat.le_of_ble_eq_true rfl) (fun b w => by kernel_rfl) rfl ?_
    conv => arg 4; cbv
    rw [show F .strD [.s (.int .u8 102), .s (.int .u8 102)] = some [102, 102] by rw [hF]; rfl]
    conv => arg 4; cbv
    exact AKp.doneE tabOK hfr (by rfl) (by rfl)

theorem FormatUintI255 : ESpec Tryd.prog 55 [.d (.s (.int .u64 255)), .d (.s (.int .i64 16))] (fun x => x = .d (.s (.str [102, 102]))) := by
  refine ESpec.enter Tryd.func55 (by kernel_rfl) rfl (Nat.le_of_ble_eq_true rfl) fun _ cx hnt hfr => ?_
  obtain ⟨F, hF⟩ := real_ex
  refine AK.run hF tabOK hnt ?_
  conv => arg 4; cbv
  rw [show F .eqI 16 10 = false by rw [hF]; decide +kernel]
  conv => arg 4; cbv
  refine AKp.call hF tabOK hnt formatBits255 rfl rfl rfl rfl rfl rfl rfl (by repeat' first | exact .refl _ | constructor) ?_
  rintro _ rfl
  conv => arg 4; cbv
  exact AKp.doneE tabOK hfr (by rfl) (by rfl)

theorem FormatUint255 : ESpec Tryd.prog 46 [.d (.s (.int .u64 255)), .d (.s (.int .i64 16))] (fun x => x = .d (.s (.str [102, 102]))) := by
  refine ESpec.enter Tryd.func46 (by kernel_rfl) rfl (Nat.le_of_ble_eq_true rfl) fun _ cx hnt hfr => ?_
  obtain ⟨F, hF⟩ := real_ex
  refine AK.run hF tabOK hnt ?_
  conv => arg 4; cbv
  refine AKp.call hF tabOK hnt FormatUintI255 rfl rfl rfl rfl rfl rfl rfl (by repeat' first | exact .refl _ | constructor) ?_
  rintro _ rfl
  conv => arg 4; cbv
  exact AKp.doneE tabOK hfr (by rfl) (by rfl)

theorem Repeat_spec (s : List UInt8) (c : Nat) (hc : c ≤ 9223372036854775807) (hlen : s.length * c ≤ 140737488355328) : ESpec Tryd.prog 47 [.d (.s (.str s)), .d (.s (.int .i64 c))] (fun x => x = .d (.s (.str (Lib.repeatL s c)))) := by
  have hm : maxLen = 9223372036854775807 := by decide
  refine ESpec.grown (enters_of Tryd.func47 (by kernel_rfl) rfl) (by show (Lib.repeatL s c).length ≤ maxLen; rw [Lib.repeatL_length, Nat.mul_comm]; omega) fun R ι vs w hR hG hl hr => ?_
  obtain ⟨v0, v1, rfl⟩ : ∃ v0 v1, vs = [v0, v1] := by
    match vs, hl with
    | [v0, v1], _ => exact ⟨v0, v1, rfl⟩
  obtain rfl := rep_s (hr 0 _ _ rfl rfl)
  obtain rfl := rep_s (hr 1 _ _ rfl rfl)
  refine (Tryd.strings_Repeat ⟨s.toArray⟩ c w hc (by rw [str_size]; exact hlen)).mono ?_
  rintro e w' ⟨rfl, hb⟩
  exact ⟨by simp [Sc.val], hb⟩

theorem Hex255 : ESpec Tryd.prog 31 [.d (.s (.int .u64 255))] (fun x => x = .d (.s (.str [48, 48, 48, 48, 48, 48, 48, 48, 48, 48, 48, 48, 48, 48, 102, 102]))) := by
  have sr := Repeat_spec [48] 14 (by decide) (by decide)
  rw [show Lib.repeatL [48] 14 = [48, 48, 48, 48, 48, 48, 48, 48, 48, 48, 48, 48, 48, 48] from rfl] at sr
  refine ESpec.enter Tryd.func31 (by kernel_rfl) rfl (Nat.le_of_ble_eq_true rfl) fun _ cx hnt hfr => ?_
  obtain ⟨F, hF⟩ := real_ex
  refine AK.run hF tabOK hnt ?_
  conv => arg 4; cbv
  refine AKp.call hF tabOK hnt FormatUint255 rfl rfl rfl rfl rfl rfl rfl (by repeat' first | exact .refl _ | constructor) ?_
  rintro _ rfl
  conv => arg 4; cbv
  rw [show F .wrap .i64 (F .sub 16 (F .lenS [102, 102])) = 14 by rw [hF]; decide +kernel]
  conv => arg 4; cbv
  refine AKp.call hF tabOK hnt sr rfl rfl rfl rfl rfl rfl rfl (by repeat' first | exact .refl _ | constructor) ?_
  rintro _ rfl
  conv => arg 4; cbv
  rw [l_cat hF (a := [48, 48, 48, 48, 48, 48, 48, 48, 48, 48, 48, 48, 48, 48]) (b := [102, 102]) (by decide)]
  conv => arg 4; cbv
  exact AKp.doneE tabOK hfr (by rfl) (by rfl)
end Go.Proofs.YtialapjchamkfaaDoor
