/- test -/
import Derived.Test.YtbcpmkonajomcaaUaX12
namespace Go.Proofs.Ytbcpmkonajomcaa
open Go Go.Proofs Go.Ua
set_option linter.unusedVariables false

structure LevelF where
  name : List UInt8
  n : List Int
  hn : n.length = 9

def LevelF.dat (l : LevelF) : Dat := .agg (.s (.str l.name) :: l.n.map fun x => .s (.int .i64 x))
def levelDs (l : List LevelF) : List Dat := l.map LevelF.dat

structure ConfF where
  total : Int
  period : Int
  perSeat : Int
  most : Int
  levels : List LevelF
  schemas : List SchemaF

def confCells (c : ConfF) : List Dat := [.s (.int .i64 c.total), .s (.int .i64 c.period), .s (.int .i64 c.perSeat), .s (.int .i64 c.most), .view 10 (levelDs c.levels), .view 5 (schemaDs c.schemas)]

def listSmall (l : List (List UInt8)) : Prop := l.length ≤ 40 ∧ ∀ s, s ∈ l → s.length ≤ 1000
def RuleF.lists (r : RuleF) : List (List (List UInt8)) := [r.users, r.groups, r.verbs, r.resources, r.spaces]
def RuleF.small (r : RuleF) : Prop := ∀ l, l ∈ r.lists → listSmall l
def SchemaF.small (s : SchemaF) : Prop := s.rules.length ≤ 40 ∧ s.name.length ≤ 1000 ∧ s.level.length ≤ 1000 ∧ ∀ r, r ∈ s.rules → r.small
def ConfF.small (c : ConfF) : Prop := c.levels.length ≤ 40 ∧ c.schemas.length ≤ 80 ∧ (∀ l, l ∈ c.levels → l.name.length ≤ 1000) ∧ ∀ s, s ∈ c.schemas → s.small

theorem all_upto {α : Type} {l : List α} {p : α → Prop} {i : Nat} (hi : l.length ≤ i) (h : ∀ j (hj : j < l.length), j < i → p l[j]) : ∀ x, x ∈ l → p x := by
  intro x hx
  obtain ⟨j, hj, rfl⟩ := List.mem_iff_getElem.1 hx
  exact h j hj (by omega)

theorem upto_succ {α : Type} {l : List α} {p : α → Prop} {i : Nat} (hi : i < l.length) (h : ∀ j (hj : j < l.length), j < i → p l[j]) (hp : p l[i]) : ∀ j (hj : j < l.length), j < i + 1 → p l[j] := by
  intro j hj hji
  rcases Nat.lt_or_ge j i with h1 | h1
  · exact h j hj h1
  · obtain rfl : j = i := by omega
    exact hp

theorem inc_i64 {iv : Int} {i n : Nat} (hiv : iv = i) (h : i < n) (hn : n < 9223372036854775808) : IntKind.i64.wrap (iv + 1) = ((i + 1 : Nat) : Int) := by
  rw [wrap_i64 (by omega) (by omega)]
  omega

theorem confSmall_spec (c : ConfF) (hl : short c.levels) (hs : short c.schemas) :
    ASpec Try.prog 8 [.d (.agg (confCells c))] [] 0 (fun x h' fr' => ∃ b, x = .d (.s (.bool b)) ∧ (b = true → c.small) ∧ h' = [] ∧ fr' = 0) := by
  obtain ⟨a1, a2, a3, a4, lv, sc⟩ := c
  unfold confCells ConfF.small
  simp only at hl hs ⊢
  obtain ⟨el, hel⟩ : ∃ e, e = levelDs lv := ⟨_, rfl⟩
  obtain ⟨es, hes⟩ : ∃ e, e = schemaDs sc := ⟨_, rfl⟩
  rw [← hel, ← hes]
  have hell : el.length = lv.length := by rw [hel]; simp [levelDs]
  have hesl : es.length = sc.length := by rw [hes]; simp [schemaDs]
  have hl' : lv.length < 9223372036854775808 := hl
  have hs' : sc.length < 9223372036854775808 := hs
  refine ASpec.enter Try.func8 (by kernel_rfl) rfl (Nat.le_of_ble_eq_true rfl) ?_
  intro cx hnt hfr
  obtain ⟨F, hF⟩ := real_ex
  refine AK.run hF tabOK hnt ?_
  conv => arg 4; cbv
  cases b1 : F .ltI 40 (F .lenD el)
  rotate_left
  · conv => arg 4; cbv
    exact AKp.done tabOK rfl rfl hfr ⟨false, rfl, fun h => (by cases h), rfl, rfl⟩
  have c1 := ltI_f hF b1
  rw [f_lenD hF] at c1
  conv => arg 4; cbv
  cases b2 : F .ltI 80 (F .lenD es)
  rotate_left
  · conv => arg 4; cbv
    exact AKp.done tabOK rfl rfl hfr ⟨false, rfl, fun h => (by cases h), rfl, rfl⟩
  have c2 := ltI_f hF b2
  rw [f_lenD hF] at c2
  conv => arg 4; cbv
  refine AKp.freezeBox 0 rfl rfl ?_
  conv => arg 4; arg 2; cbv
  subst hF
  refine AKp.loop ⟨[(4, _), (3, _), (1, _)], [], 0⟩ hfr ⟨⟨rfl, rfl⟩, ⟨rfl, rfl⟩, ⟨rfl, rfl⟩, trivial⟩ trivial
    (fun n S => ∃ (i : Nat) (iv sv : Int), i + n = lv.length ∧ iv = i ∧ (∀ j (hj : j < lv.length), j < i → lv[j].name.length ≤ 1000) ∧
      S = ⟨[(4, .d (.s (.int .i64 iv))), (3, .d (.s (.int .i64 sv))), (1, .d (.vref [.s (.int .i64 a1), .s (.int .i64 a2), .s (.int .i64 a3), .s (.int .i64 a4), .view 10 el, .view 5 es]))], [], 0⟩)
    lv.length ⟨0, _, _, by omega, rfl, fun j _ hj => absurd hj (by omega), rfl⟩ ?_
  rintro n S ⟨i, iv, sv, hi, hiv, hno, rfl⟩
  obtain ⟨F, hF⟩ := real_ex
  refine AK.run hF tabOK hnt ?_
  conv => arg 4; cbv
  cases hb : F .ltI iv (F .lenD el)
  rotate_left
  · have hlt := ltI_t hF hb
    rw [f_lenD hF] at hlt
    have hil : i < lv.length := by omega
    obtain ⟨nm, hnm⟩ : ∃ e, e = lv[i].name := ⟨_, rfl⟩
    obtain ⟨y1, y2, y3, y4, y5, y6, y7, y8, y9, hy⟩ : ∃ y1 y2 y3 y4 y5 y6 y7 y8 y9, lv[i].n = [y1, y2, y3, y4, y5, y6, y7, y8, y9] := by
      match h : lv[i].n, lv[i].hn with
      | [y1, y2, y3, y4, y5, y6, y7, y8, y9], _ => exact ⟨y1, y2, y3, y4, y5, y6, y7, y8, y9, rfl⟩
    have hg : F .getD el iv = some (.agg [.s (.str nm), .s (.int .i64 y1), .s (.int .i64 y2), .s (.int .i64 y3), .s (.int .i64 y4), .s (.int .i64 y5), .s (.int .i64 y6), .s (.int .i64 y7), .s (.int .i64 y8), .s (.int .i64 y9)]) := by
      rw [hF]; exact fr_getD (by rw [hel]; simp [levelDs, hil, LevelF.dat, hy, hnm]) hiv
    conv => arg 4; cbv
    rw [hg]
    conv => arg 4; cbv
    cases hc : F .ltI 1000 (F .lenS nm)
    · have hc' := ltI_f hF hc
      rw [f_lenS hF] at hc'
      conv => arg 4; cbv
      subst hF
      exact AKp.again ⟨[(4, _), (3, _), (1, _)], [], 0⟩ hfr ⟨⟨rfl, rfl⟩, ⟨rfl, rfl⟩, ⟨rfl, rfl⟩, trivial⟩ trivial ⟨n - 1, by omega, i + 1, _, _, by omega, inc_i64 hiv hil (by omega), upto_succ (p := fun l : LevelF => l.name.length ≤ 1000) hil hno (by show lv[i].name.length ≤ 1000; rw [← hnm]; omega), rfl⟩
    · conv => arg 4; cbv
      exact AKp.done tabOK rfl rfl hfr ⟨false, rfl, fun h => (by cases h), rfl, rfl⟩
  have hlt := ltI_f hF hb
  rw [f_lenD hF] at hlt
  have hlevels : ∀ l, l ∈ lv → l.name.length ≤ 1000 := all_upto (by omega) hno
  conv => arg 4; cbv
  subst hF
  refine AKp.loop ⟨[(5, _), (3, _), (1, _)], [], 0⟩ hfr ⟨⟨rfl, rfl⟩, ⟨rfl, rfl⟩, ⟨rfl, rfl⟩, trivial⟩ trivial
    (fun n S => ∃ (i : Nat) (iv sv : Int), i + n = sc.length ∧ iv = i ∧ (∀ j (hj : j < sc.length), j < i → sc[j].small) ∧
      S = ⟨[(5, .d (.s (.int .i64 iv))), (3, .d (.s (.int .i64 sv))), (1, .d (.vref [.s (.int .i64 a1), .s (.int .i64 a2), .s (.int .i64 a3), .s (.int .i64 a4), .view 10 el, .view 5 es]))], [], 0⟩)
    sc.length ⟨0, _, _, by omega, rfl, fun j _ hj => absurd hj (by omega), rfl⟩ ?_
  clear hb hlt hi hiv hno sv iv i n
  rintro n S ⟨i, iv, sv, hi, hiv, hno, rfl⟩
  obtain ⟨F, hF⟩ := real_ex
  refine AK.run hF tabOK hnt ?_
  conv => arg 4; cbv
  cases hb : F .ltI iv (F .lenD es)
  · have hlt := ltI_f hF hb
    rw [f_lenD hF] at hlt
    conv => arg 4; cbv
    exact AKp.done tabOK rfl rfl hfr ⟨_, rfl, fun _ => ⟨by omega, by omega, hlevels, all_upto (by omega) hno⟩, rfl, rfl⟩
  have hlt := ltI_t hF hb
  rw [f_lenD hF] at hlt
  have hil : i < sc.length := by omega
  obtain ⟨sch, hsch⟩ : ∃ e, e = sc[i] := ⟨_, rfl⟩
  obtain ⟨nm, hnm⟩ : ∃ e, e = sch.name := ⟨_, rfl⟩
  obtain ⟨le, hle⟩ : ∃ e, e = sch.level := ⟨_, rfl⟩
  obtain ⟨rk, hrk⟩ : ∃ e, e = sch.rank := ⟨_, rfl⟩
  obtain ⟨b, hby⟩ : ∃ e, e = sch.by_ := ⟨_, rfl⟩
  obtain ⟨rl, hrl⟩ : ∃ e, e = sch.rules := ⟨_, rfl⟩
  obtain ⟨er, her⟩ : ∃ e, e = ruleDs rl := ⟨_, rfl⟩
  have herl : er.length = rl.length := by rw [her]; simp [ruleDs]
  have hg : F .getD es iv = some (.agg [.s (.str nm), .s (.str le), .s (.int .i64 rk), .s (.int .i64 b), .view 5 er]) := by
    rw [hF]; exact fr_getD (by rw [hes]; simp [schemaDs, hil, SchemaF.dat, ← hsch, hnm, hle, hrk, hby, her, hrl]) hiv
  conv => arg 4; cbv
  rw [hg]
  conv => arg 4; cbv
  cases d1 : F .ltI 40 (F .lenD er)
  rotate_left
  · conv => arg 4; cbv
    exact AKp.done tabOK rfl rfl hfr ⟨false, rfl, fun h => (by cases h), rfl, rfl⟩
  have d1' := ltI_f hF d1
  rw [f_lenD hF] at d1'
  conv => arg 4; cbv
  cases d2 : F .ltI 1000 (F .lenS nm)
  rotate_left
  · conv => arg 4; cbv
    exact AKp.done tabOK rfl rfl hfr ⟨false, rfl, fun h => (by cases h), rfl, rfl⟩
  have d2' := ltI_f hF d2
  rw [f_lenS hF] at d2'
  conv => arg 4; cbv
  cases d3 : F .ltI 1000 (F .lenS le)
  rotate_left
  · conv => arg 4; cbv
    exact AKp.done tabOK rfl rfl hfr ⟨false, rfl, fun h => (by cases h), rfl, rfl⟩
  have d3' := ltI_f hF d3
  rw [f_lenS hF] at d3'
  conv => arg 4; cbv
  refine AKp.freezeBox 0 rfl rfl ?_
  conv => arg 4; arg 2; cbv
  subst hF
  refine AKp.loop ⟨[(7, _), (6, _), (5, _), (3, _), (1, _)], [], 0⟩ hfr ⟨⟨rfl, rfl⟩, ⟨rfl, rfl⟩, ⟨rfl, rfl⟩, ⟨rfl, rfl⟩, ⟨rfl, rfl⟩, trivial⟩ trivial
    (fun n S => ∃ (i : Nat) (jv sv : Int), i + n = rl.length ∧ jv = i ∧ (∀ j (hj : j < rl.length), j < i → rl[j].small) ∧
      S = ⟨[(7, .d (.s (.int .i64 jv))), (6, .d (.vref [.s (.str nm), .s (.str le), .s (.int .i64 rk), .s (.int .i64 b), .view 5 er])), (5, .d (.s (.int .i64 iv))), (3, .d (.s (.int .i64 sv))), (1, .d (.vref [.s (.int .i64 a1), .s (.int .i64 a2), .s (.int .i64 a3), .s (.int .i64 a4), .view 10 el, .view 5 es]))], [], 0⟩)
    rl.length ⟨0, _, _, by omega, rfl, fun j _ hj => absurd hj (by omega), rfl⟩ ?_
  rintro n2 S ⟨i2, jv, sv2, hi2, hjv, hno2, rfl⟩
  obtain ⟨F, hF⟩ := real_ex
  refine AK.run hF tabOK hnt ?_
  conv => arg 4; cbv
  cases hb2 : F .ltI jv (F .lenD er)
  · have hlt2 := ltI_f hF hb2
    rw [f_lenD hF] at hlt2
    have hsm : sc[i].small := by
      rw [← hsch]
      exact ⟨by rw [← hrl]; omega, by rw [← hnm]; omega, by rw [← hle]; omega, by rw [← hrl]; exact all_upto (by omega) hno2⟩
    conv => arg 4; cbv
    subst hF
    exact AKp.again ⟨[(5, _), (3, _), (1, _)], [], 0⟩ hfr ⟨⟨rfl, rfl⟩, ⟨rfl, rfl⟩, ⟨rfl, rfl⟩, trivial⟩ trivial ⟨n - 1, by omega, i + 1, _, _, by omega, inc_i64 hiv hil (by omega), upto_succ hil hno hsm, rfl⟩
  have hlt2 := ltI_t hF hb2
  rw [f_lenD hF] at hlt2
  have hil2 : i2 < rl.length := by omega
  obtain ⟨ru, hru⟩ : ∃ e, e = rl[i2] := ⟨_, rfl⟩
  obtain ⟨e1, he1⟩ : ∃ e, e = strs ru.users := ⟨_, rfl⟩
  obtain ⟨e2, he2⟩ : ∃ e, e = strs ru.groups := ⟨_, rfl⟩
  obtain ⟨e3, he3⟩ : ∃ e, e = strs ru.verbs := ⟨_, rfl⟩
  obtain ⟨e4, he4⟩ : ∃ e, e = strs ru.resources := ⟨_, rfl⟩
  obtain ⟨e5, he5⟩ : ∃ e, e = strs ru.spaces := ⟨_, rfl⟩
  have hg2 : F .getD er jv = some (.agg [.view 1 e1, .view 1 e2, .view 1 e3, .view 1 e4, .view 1 e5]) := by
    rw [hF]; exact fr_getD (by rw [her]; simp [ruleDs, hil2, ruleD, ← hru, he1, he2, he3, he4, he5]) hjv
  conv => arg 4; cbv
  rw [hg2]
  conv => arg 4; cbv
  refine AKp.freeze 1 rfl ?_
  conv => arg 4; arg 2; cbv
  have hfive : F .lenD [.view 1 e1, .view 1 e2, .view 1 e3, .view 1 e4, .view 1 e5] = 5 := by rw [f_lenD hF]; rfl
  rw [hfive]
  subst hF
  refine AKp.loop ⟨[(89, _), (88, _), (87, _), (7, _), (6, _), (5, _), (3, _), (1, _)], [], 0⟩ hfr ⟨⟨rfl, rfl⟩, ⟨rfl, rfl⟩, ⟨rfl, rfl⟩, ⟨rfl, rfl⟩, ⟨rfl, rfl⟩, ⟨rfl, rfl⟩, ⟨rfl, rfl⟩, ⟨rfl, rfl⟩, trivial⟩ trivial
    (fun n S => ∃ (i : Nat) (kv sv : Int), i + n = 5 ∧ kv = i ∧ (∀ j (hj : j < ru.lists.length), j < i → listSmall ru.lists[j]) ∧
      S = ⟨[(89, .d (.s (.int .i64 kv))), (88, .d (.s (.int .i64 5))), (87, .d (.view 1 [.view 1 e1, .view 1 e2, .view 1 e3, .view 1 e4, .view 1 e5])), (7, .d (.s (.int .i64 jv))), (6, .d (.vref [.s (.str nm), .s (.str le), .s (.int .i64 rk), .s (.int .i64 b), .view 5 er])), (5, .d (.s (.int .i64 iv))), (3, .d (.s (.int .i64 sv))), (1, .d (.vref [.s (.int .i64 a1), .s (.int .i64 a2), .s (.int .i64 a3), .s (.int .i64 a4), .view 10 el, .view 5 es]))], [], 0⟩)
    5 ⟨0, _, _, by omega, rfl, fun j _ hj => absurd hj (by omega), rfl⟩ ?_
  rintro n3 S ⟨i3, kv, sv3, hi3, hkv, hno3, rfl⟩
  have hll : ru.lists.length = 5 := rfl
  obtain ⟨F, hF⟩ := real_ex
  refine AK.run hF tabOK hnt ?_
  conv => arg 4; cbv
  cases hb3 : F .ltI kv 5
  · have hlt3 := ltI_f hF hb3
    have hsm : rl[i2].small := by
      rw [← hru]
      exact all_upto (by omega) hno3
    conv => arg 4; cbv
    subst hF
    exact AKp.again ⟨[(7, _), (6, _), (5, _), (3, _), (1, _)], [], 0⟩ hfr ⟨⟨rfl, rfl⟩, ⟨rfl, rfl⟩, ⟨rfl, rfl⟩, ⟨rfl, rfl⟩, ⟨rfl, rfl⟩, trivial⟩ trivial ⟨n2 - 1, by omega, i2 + 1, _, _, by omega, inc_i64 hjv hil2 (by omega), upto_succ hil2 hno2 hsm, rfl⟩
  have hlt3 := ltI_t hF hb3
  have hil3 : i3 < ru.lists.length := by omega
  obtain ⟨ll, hll2⟩ : ∃ e, e = ru.lists[i3] := ⟨_, rfl⟩
  obtain ⟨ex, hex⟩ : ∃ e, e = strs ll := ⟨_, rfl⟩
  have hexl : ex.length = ll.length := by rw [hex]; simp [strs]
  have hg3 : F .getD [.view 1 e1, .view 1 e2, .view 1 e3, .view 1 e4, .view 1 e5] kv = some (.view 1 ex) := by
    rw [hF]
    refine fr_getD ?_ hkv
    rw [show [Dat.view 1 e1, Dat.view 1 e2, Dat.view 1 e3, Dat.view 1 e4, Dat.view 1 e5] = ru.lists.map fun l => Dat.view 1 (strs l) by rw [he1, he2, he3, he4, he5]; rfl]
    rw [List.getElem?_map, List.getElem?_eq_getElem hil3, ← hll2, hex]
    rfl
  conv => arg 4; cbv
  rw [hg3]
  conv => arg 4; cbv
  cases d4 : F .ltI 40 (F .lenD ex)
  rotate_left
  · conv => arg 4; cbv
    exact AKp.done tabOK rfl rfl hfr ⟨false, rfl, fun h => (by cases h), rfl, rfl⟩
  have d4' := ltI_f hF d4
  rw [f_lenD hF] at d4'
  conv => arg 4; cbv
  subst hF
  refine AKp.loop ⟨[(11, _), (10, _), (89, _), (88, _), (87, _), (7, _), (6, _), (5, _), (3, _), (1, _)], [], 0⟩ hfr ⟨⟨rfl, rfl⟩, ⟨rfl, rfl⟩, ⟨rfl, rfl⟩, ⟨rfl, rfl⟩, ⟨rfl, rfl⟩, ⟨rfl, rfl⟩, ⟨rfl, rfl⟩, ⟨rfl, rfl⟩, ⟨rfl, rfl⟩, ⟨rfl, rfl⟩, trivial⟩ trivial
    (fun n S => ∃ (i : Nat) (mv sv : Int), i + n = ll.length ∧ mv = i ∧ (∀ j (hj : j < ll.length), j < i → ll[j].length ≤ 1000) ∧
      S = ⟨[(11, .d (.s (.int .i64 mv))), (10, .d (.view 1 ex)), (89, .d (.s (.int .i64 kv))), (88, .d (.s (.int .i64 5))), (87, .d (.view 1 [.view 1 e1, .view 1 e2, .view 1 e3, .view 1 e4, .view 1 e5])), (7, .d (.s (.int .i64 jv))), (6, .d (.vref [.s (.str nm), .s (.str le), .s (.int .i64 rk), .s (.int .i64 b), .view 5 er])), (5, .d (.s (.int .i64 iv))), (3, .d (.s (.int .i64 sv))), (1, .d (.vref [.s (.int .i64 a1), .s (.int .i64 a2), .s (.int .i64 a3), .s (.int .i64 a4), .view 10 el, .view 5 es]))], [], 0⟩)
    ll.length ⟨0, _, _, by omega, rfl, fun j _ hj => absurd hj (by omega), rfl⟩ ?_
  rintro n4 S ⟨i4, mv, sv4, hi4, hmv, hno4, rfl⟩
  obtain ⟨F, hF⟩ := real_ex
  refine AK.run hF tabOK hnt ?_
  conv => arg 4; cbv
  cases hb4 : F .ltI mv (F .lenD ex)
  · have hlt4 := ltI_f hF hb4
    rw [f_lenD hF] at hlt4
    have hsm : listSmall ru.lists[i3] := by
      rw [← hll2]
      exact ⟨by omega, all_upto (by omega) hno4⟩
    conv => arg 4; cbv
    subst hF
    exact AKp.again ⟨[(89, _), (88, _), (87, _), (7, _), (6, _), (5, _), (3, _), (1, _)], [], 0⟩ hfr ⟨⟨rfl, rfl⟩, ⟨rfl, rfl⟩, ⟨rfl, rfl⟩, ⟨rfl, rfl⟩, ⟨rfl, rfl⟩, ⟨rfl, rfl⟩, ⟨rfl, rfl⟩, ⟨rfl, rfl⟩, trivial⟩ trivial ⟨n3 - 1, by omega, i3 + 1, _, _, by omega, inc_i64 hkv (n := 5) (by omega) (by omega), upto_succ hil3 hno3 hsm, rfl⟩
  have hlt4 := ltI_t hF hb4
  rw [f_lenD hF] at hlt4
  have hil4 : i4 < ll.length := by omega
  obtain ⟨y, hy⟩ : ∃ y, y = ll[i4] := ⟨_, rfl⟩
  have hg4 : F .getD ex mv = some (.s (.str y)) := by rw [hF]; exact fr_getD (by rw [hex]; simp [strs, hy, hil4]) hmv
  conv => arg 4; cbv
  rw [hg4]
  conv => arg 4; cbv
  cases d5 : F .ltI 1000 (F .lenS y)
  rotate_left
  · conv => arg 4; cbv
    exact AKp.done tabOK rfl rfl hfr ⟨false, rfl, fun h => (by cases h), rfl, rfl⟩
  have d5' := ltI_f hF d5
  rw [f_lenS hF] at d5'
  conv => arg 4; cbv
  repeat rw [hg4]
  conv => arg 4; cbv
  subst hF
  exact AKp.again ⟨[(11, _), (10, _), (89, _), (88, _), (87, _), (7, _), (6, _), (5, _), (3, _), (1, _)], [], 0⟩ hfr ⟨⟨rfl, rfl⟩, ⟨rfl, rfl⟩, ⟨rfl, rfl⟩, ⟨rfl, rfl⟩, ⟨rfl, rfl⟩, ⟨rfl, rfl⟩, ⟨rfl, rfl⟩, ⟨rfl, rfl⟩, ⟨rfl, rfl⟩, ⟨rfl, rfl⟩, trivial⟩ trivial ⟨n4 - 1, by omega, i4 + 1, _, _, by omega, inc_i64 hmv hil4 (by omega), upto_succ (p := fun l : List UInt8 => l.length ≤ 1000) hil4 hno4 (by show ll[i4].length ≤ 1000; rw [← hy]; omega), rfl⟩
end Go.Proofs.Ytbcpmkonajomcaa
