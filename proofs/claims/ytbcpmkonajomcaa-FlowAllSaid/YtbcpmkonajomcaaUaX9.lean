/- test -/
import Derived.Test.YtbcpmkonajomcaaUaX8
import Derived.Test.YtbcpmkonajomcaaUaZ
namespace Go.Proofs.Ytbcpmkonajomcaa
open Go Go.Proofs Go.Ua
set_option linter.unusedVariables false

def schemaDs (l : List SchemaF) : List Dat := l.map SchemaF.dat

def clD (a b c : List UInt8) (f : Int) : Dat := .agg [.s (.str a), .s (.str b), .s (.str c), .s (.int .u64 f)]

def flowF (s k : List UInt8) : Int := moreF (moreF (moreF 14695981039346656037 s) [0]) k

/-- The class of a request, and the error's number. -/
def classF (l : List SchemaF) (q : ReqF) : Dat × Int := match l.find? fun s => schemaF s q with
  | some s => (clD s.name s.level (keyF s.by_ q.user q.space) (flowF s.name (keyF s.by_ q.user q.space)), 0)
  | none => (clD [] [] [] 0, 6)

theorem Classify_spec (l : List SchemaF) (q : ReqF) (a1 a2 a3 a4 dg : Int) (lv ss : List Dat) (hss : ss = schemaDs l) (hs : short l) (ho : ∀ s, s ∈ l → s.ok) (hq : short q.groups) (hu : q.user.length < 9223372036854775808) (hsp : q.space.length < 9223372036854775808) :
    ASpec Try.prog 10 [.d (.agg [.s (.int .i64 a1), .s (.int .i64 a2), .s (.int .i64 a3), .s (.int .i64 a4), .view 10 lv, .view 5 ss, .s (.int .u64 dg)]), .d q.dat] [] 0
      (fun x h' fr' => x = .tup [.d (classF l q).1, .d (.s (.int .i64 (classF l q).2))] ∧ h' = [] ∧ fr' = 0) := by
  obtain ⟨eg, heg⟩ : ∃ e, e = strs q.groups := ⟨_, rfl⟩
  obtain ⟨u, hu'⟩ : ∃ e, e = q.user := ⟨_, rfl⟩
  obtain ⟨v, hv'⟩ : ∃ e, e = q.verb := ⟨_, rfl⟩
  obtain ⟨re, hre'⟩ : ∃ e, e = q.resource := ⟨_, rfl⟩
  obtain ⟨sp, hsp'⟩ : ∃ e, e = q.space := ⟨_, rfl⟩
  obtain ⟨ob, hob'⟩ : ∃ e, e = q.objects := ⟨_, rfl⟩
  have hqd : q.dat = .agg [.s (.str u), .view 1 eg, .s (.str v), .s (.str re), .s (.str sp), .s (.int .i64 ob)] := by
    unfold ReqF.dat reqD
    rw [heg, hu', hv', hre', hsp', hob']
  rw [hqd]
  refine ASpec.enter Try.func10 (by kernel_rfl) rfl (Nat.le_of_ble_eq_true rfl) ?_
  intro cx hnt hfr
  obtain ⟨F, hF⟩ := real_ex
  refine AK.run hF tabOK hnt ?_
  conv => arg 4; cbv
  refine AKp.freezeBox 1 rfl rfl ?_
  refine AKp.freezeBox 0 rfl rfl ?_
  conv => arg 4; arg 2; cbv
  subst hF
  refine AKp.loop ⟨[(13, _), (12, _), (11, _), (5, _), (4, _), (3, _)], [(2, _)], 3⟩ hfr ⟨⟨rfl, rfl⟩, ⟨rfl, rfl⟩, ⟨rfl, rfl⟩, ⟨rfl, rfl⟩, ⟨rfl, rfl⟩, ⟨rfl, rfl⟩, trivial⟩ ⟨⟨rfl, rfl, rfl⟩, trivial⟩
    (fun n S => ∃ (i : Nat) (iv lv : Int), i + n = l.length ∧ iv = i ∧ lv = l.length ∧ (∀ j (hj : j < l.length), j < i → schemaF l[j] q = false) ∧
      S = ⟨[(13, .d (.s (.int .i64 iv))), (12, .d (.s (.int .i64 lv))), (11, .d (.view 5 ss)), (5, .d (.s (.int .i64 0))), (4, .ptr 2 0 0 4), (3, .d (.vref [.s (.str u), .view 1 eg, .s (.str v), .s (.str re), .s (.str sp), .s (.int .i64 ob)]))],
        [(2, .cs 34 [.d (.s (.str [])), .d (.s (.str [])), .d (.s (.str [])), .d (.s (.int .u64 0))])], 3⟩)
    l.length ⟨0, _, _, by omega, rfl, ?_, fun j _ hj => absurd hj (by omega), rfl⟩ ?_
  · show ((ss.length : Nat) : Int) = _
    rw [hss]; simp [schemaDs]
  rintro n S ⟨i, iv, lv, hi, hiv, hlv, hno, rfl⟩
  obtain ⟨F, hF⟩ := real_ex
  refine AK.run hF tabOK hnt ?_
  conv => arg 4; cbv
  have hs' : l.length < 9223372036854775808 := hs
  cases hb : F .ltI iv lv
  · have hlt := ltI_f hF hb
    conv => arg 4; cbv
    have hcl : classF l q = (clD [] [] [] 0, 6) := by
      unfold classF
      rw [List.find?_eq_none.2 fun x hx => by
        obtain ⟨j, hj, rfl⟩ := List.mem_iff_getElem.1 hx
        simp [hno j hj (by omega)]]
    refine AKp.doneX tabOK rfl rfl rfl hfr ⟨?_, rfl, rfl⟩
    rw [hcl]
    rfl
  · have hlt := ltI_t hF hb
    have hil : i < l.length := by omega
    have hmem : l[i] ∈ l := List.getElem_mem hil
    obtain ⟨nm, hnm⟩ : ∃ e, e = l[i].name := ⟨_, rfl⟩
    obtain ⟨le, hle⟩ : ∃ e, e = l[i].level := ⟨_, rfl⟩
    obtain ⟨rk, hrk⟩ : ∃ e, e = l[i].rank := ⟨_, rfl⟩
    obtain ⟨b, hby⟩ : ∃ e, e = l[i].by_ := ⟨_, rfl⟩
    obtain ⟨er, her⟩ : ∃ e, e = ruleDs l[i].rules := ⟨_, rfl⟩
    have hsd : l[i].dat = .agg [.s (.str nm), .s (.str le), .s (.int .i64 rk), .s (.int .i64 b), .view 5 er] := by
      unfold SchemaF.dat
      rw [hnm, hle, hrk, hby, her]
    have hg : F .getD ss iv = some (.agg [.s (.str nm), .s (.str le), .s (.int .i64 rk), .s (.int .i64 b), .view 5 er]) := by
      rw [hF]; exact fr_getD (by rw [hss, ← hsd]; simp [schemaDs, hil]) hiv
    have sp1 := Schema_spec l[i] q (ho _ hmem) hq
    rw [hqd, hsd] at sp1
    conv => arg 4; cbv
    rw [hg]
    conv => arg 4; cbv
    generalize hz : schemaF l[i] q = z at sp1
    refine AK.call0 sp1 rfl rfl rfl (fun d hd => ?_) rfl rfl rfl ?_
    · cases hd; rw [hnt]; exact Nat.le_of_ble_eq_true rfl
    rintro x h' fr' ⟨rfl, rfl, rfl⟩
    refine AK.run hF tabOK hnt ?_
    cases z
    · conv => arg 4; cbv
      subst hF
      refine AKp.again ⟨[(13, _), (12, _), (11, _), (5, _), (4, _), (3, _)], [(2, _)], 3⟩ hfr ⟨⟨rfl, rfl⟩, ⟨rfl, rfl⟩, ⟨rfl, rfl⟩, ⟨rfl, rfl⟩, ⟨rfl, rfl⟩, ⟨rfl, rfl⟩, trivial⟩ ⟨⟨rfl, rfl, rfl⟩, trivial⟩
        ⟨n - 1, by omega, i + 1, _, _, by omega, ?_, hlv, ?_, rfl⟩
      · show IntKind.i64.wrap (iv + 1) = _
        rw [wrap_i64 (by omega) (by omega)]
        show iv + 1 = ((i + 1 : Nat) : Int)
        omega
      · intro j hj hji
        rcases Nat.lt_or_ge j i with h | h
        · exact hno j hj h
        · obtain rfl : j = i := by omega
          exact hz
    · have hcl : classF l q = (clD nm le (keyF b u sp) (flowF nm (keyF b u sp)), 0) := by
        unfold classF
        have hfind : l.find? (fun s => schemaF s q) = some l[i] := List.find?_eq_some_iff_getElem.2 ⟨hz, i, hil, rfl, fun j hj => by simp [hno j (by omega) hj]⟩
        rw [hfind]
        simp only
        rw [← hnm, ← hle, ← hby, hu', hsp']
      have sp2 := Key_spec b u eg v re sp ob
      have hkl : (keyF b u sp).length < 9223372036854775808 := by
        unfold keyF
        split
        · rw [hu']; exact hu
        · split
          · rw [hsp']; exact hsp
          · decide
      have sp3 := fFlow_spec nm (keyF b u sp) (by rw [hnm]; exact (ho _ hmem).1) hkl
      change ASpec Try.prog 15 _ _ _ (fun x h' fr' => x = .d (.s (.int .u64 (flowF nm (keyF b u sp)))) ∧ h' = [] ∧ fr' = 0) at sp3
      rw [hcl]
      generalize keyF b u sp = ky at sp2 sp3 ⊢
      generalize flowF nm ky = fl at sp3 ⊢
      unfold reqD at sp2
      conv => arg 4; cbv
      refine AK.call0 sp2 rfl rfl rfl (fun d hd => ?_) rfl rfl rfl ?_
      · cases hd; rw [hnt]; exact Nat.le_of_ble_eq_true rfl
      rintro x h' fr' ⟨rfl, rfl, rfl⟩
      refine AK.run hF tabOK hnt ?_
      conv => arg 4; cbv
      refine AKp.drawn ?_
      refine DK.runV hF tabOK hnt hfr 0 ?_
      conv => arg 8; cbv
      refine DK.call0 sp3 (.d (.s (.int .u64 fl))) rfl rfl rfl (fun d hd => ?_) rfl rfl rfl (fun x h' fr' => ?_) ?_
      · cases hd; rw [hnt]; exact Nat.le_of_ble_eq_true rfl
      · rintro ⟨rfl, rfl, rfl⟩; exact ⟨rfl, rfl, rfl⟩
      refine DK.runV hF tabOK hnt hfr 9 ?_
      conv => arg 8; cbv
      refine DK.fin (by kernel_rfl) (by decide) ?_
      refine AK.run hF tabOK hnt ?_
      conv => arg 4; cbv
      exact AKp.doneX tabOK rfl rfl rfl hfr ⟨rfl, rfl, rfl⟩
end Go.Proofs.Ytbcpmkonajomcaa
