/- The library of this claim and its walks, part 46, joined out of smaller texts. No statement stands in it. -/
import Derived.Test.YtljidkmppeaecaaDoorUaM45
/- Chapter 10: any text is read as the document says. -/
namespace Go.Proofs.YtljidkmppeaecaaDoor
open Go Go.Proofs Go.Ua Go.Extern
set_option linter.unusedVariables false
set_option linter.unusedSimpArgs false
set_option maxRecDepth 10000
theorem rparseOk_spec (s : Wd) (h : okP s = true) : ESpec Tryd.prog 12 [.d (.s (.str s))] (fun x => x = .tup [.d (.agg [.s (.int .i64 (parC s).tt), .s (.int .i64 (parC s).pe), .s (.int .i64 (parC s).pr), .s (.int .i64 (parC s).mo), .view 10 (lvDs (parC s).ls), .view 5 (smDs (parC s).ss)]), .d (.s (.int .i64 0)), .d (.s (.int .i64 (parF s).2.2))]) := by
  have sp := refparse_spec s
  rw [show (parF s).2.1 = 0 from of_decide_eq_true h] at sp
  exact sp
def φRParseOk (p : Wd → Bool) (u1 u2 u3 u4 : Wd → Int) (u5 u6 : Wd → List Dat) (n : Wd → Int) : List AV → Option (Bool × AV)
  | [.d (.s (.str s))] => some (p s, .tup [.d (.agg [.s (.int .i64 (u1 s)), .s (.int .i64 (u2 s)), .s (.int .i64 (u3 s)), .s (.int .i64 (u4 s)), .view 10 (u5 s), .view 5 (u6 s)]), .d (.s (.int .i64 0)), .d (.s (.int .i64 (n s)))])
  | _ => none
theorem φRParseOk_ok : SpOK Tryd.prog 12 (φRParseOk (okP) (fun s => (parC s).tt) (fun s => (parC s).pe) (fun s => (parC s).pr) (fun s => (parC s).mo) (fun s => lvDs (parC s).ls) (fun s => smDs (parC s).ss) (fun s => (parF s).2.2)) := by
  intro xs b x h hb
  unfold φRParseOk at h
  split at h
  · simp only [Option.some.injEq, Prod.mk.injEq] at h
    obtain ⟨rfl, rfl⟩ := h
    exact rparseOk_spec _ hb
  · cases h
theorem rparseBad_spec (s : Wd) (h : badP s = true) : ESpec Tryd.prog 12 [.d (.s (.str s))] (fun x => x = .tup [.d (.agg [.s (.int .i64 0), .s (.int .i64 0), .s (.int .i64 0), .s (.int .i64 0), .view 10 [], .view 5 []]), .d (.s (.int .i64 (parF s).2.1)), .d (.s (.int .i64 (parF s).2.2))]) := by
  have sp := refparse_spec s
  rw [parF_bad (of_decide_eq_true h)] at sp
  exact sp
def φRParseBad (p : Wd → Bool) (n e : Wd → Int) : List AV → Option (Bool × AV)
  | [.d (.s (.str s))] => some (p s, .tup [.d (.agg [.s (.int .i64 0), .s (.int .i64 0), .s (.int .i64 0), .s (.int .i64 0), .view 10 [], .view 5 []]), .d (.s (.int .i64 (e s))), .d (.s (.int .i64 (n s)))])
  | _ => none
theorem φRParseBad_ok : SpOK Tryd.prog 12 (φRParseBad (badP) (fun s => (parF s).2.2) (fun s => (parF s).2.1)) := by
  intro xs b x h hb
  unfold φRParseBad at h
  split at h
  · simp only [Option.some.injEq, Prod.mk.injEq] at h
    obtain ⟨rfl, rfl⟩ := h
    exact rparseBad_spec _ hb
  · cases h
theorem isCf_ofX (c : Cf) : isCf0 (lvDs c.ls) (smDs c.ss) = true := by rw [isCf0, is_lv, is_sm]; rfl
set_option maxHeartbeats 4000000 in
set_option cbv.maxSteps 10000000 in
set_option maxRecDepth 100000 in
theorem confReads_spec (s : Wd) : ESpec Tryd.prog 4 [.d (.s (.str s))] (fun x => x = .d (.s (.bool true))) := by
  by_cases hcode : (parF s).2.1 = 0
  · have _ := hcode
    obtain ⟨uParseOk, huParseOk⟩ : ∃ u : Wd → Bool, u = okP := ⟨_, rfl⟩
    obtain ⟨uParseOk1, huParseOk1⟩ : ∃ u : Wd → Int, u = fun s => (parC s).tt := ⟨_, rfl⟩
    obtain ⟨uParseOk2, huParseOk2⟩ : ∃ u : Wd → Int, u = fun s => (parC s).pe := ⟨_, rfl⟩
    obtain ⟨uParseOk3, huParseOk3⟩ : ∃ u : Wd → Int, u = fun s => (parC s).pr := ⟨_, rfl⟩
    obtain ⟨uParseOk4, huParseOk4⟩ : ∃ u : Wd → Int, u = fun s => (parC s).mo := ⟨_, rfl⟩
    obtain ⟨uParseOk5, huParseOk5⟩ : ∃ u : Wd → List Dat, u = fun s => lvDs (parC s).ls := ⟨_, rfl⟩
    obtain ⟨uParseOk6, huParseOk6⟩ : ∃ u : Wd → List Dat, u = fun s => smDs (parC s).ss := ⟨_, rfl⟩
    obtain ⟨uRParseOk, huRParseOk⟩ : ∃ u : Wd → Bool, u = okP := ⟨_, rfl⟩
    obtain ⟨uRParseOk1, huRParseOk1⟩ : ∃ u : Wd → Int, u = fun s => (parC s).tt := ⟨_, rfl⟩
    obtain ⟨uRParseOk2, huRParseOk2⟩ : ∃ u : Wd → Int, u = fun s => (parC s).pe := ⟨_, rfl⟩
    obtain ⟨uRParseOk3, huRParseOk3⟩ : ∃ u : Wd → Int, u = fun s => (parC s).pr := ⟨_, rfl⟩
    obtain ⟨uRParseOk4, huRParseOk4⟩ : ∃ u : Wd → Int, u = fun s => (parC s).mo := ⟨_, rfl⟩
    obtain ⟨uRParseOk5, huRParseOk5⟩ : ∃ u : Wd → List Dat, u = fun s => lvDs (parC s).ls := ⟨_, rfl⟩
    obtain ⟨uRParseOk6, huRParseOk6⟩ : ∃ u : Wd → List Dat, u = fun s => smDs (parC s).ss := ⟨_, rfl⟩
    obtain ⟨uRParseOk7, huRParseOk7⟩ : ∃ u : Wd → Int, u = fun s => (parF s).2.2 := ⟨_, rfl⟩
    obtain ⟨uSameCf, huSameCf⟩ : ∃ u : List Dat → List Dat → List Dat → List Dat → Bool, u = fun ls ss ks ts => isCf0 ls ss && isCf0 ks ts := ⟨_, rfl⟩
    obtain ⟨uSameCf1, huSameCf1⟩ : ∃ u : Int → Int → Int → Int → List Dat → List Dat → Int → Int → Int → Int → List Dat → List Dat → Bool, u = fun a b c d ls ss a2 b2 c2 d2 ks ts => sameC ⟨a, b, c, d, unLv ls, unSm ss⟩ ⟨a2, b2, c2, d2, unLv ks, unSm ts⟩ := ⟨_, rfl⟩
    have hG : TblOK Tryd.prog [(8, .p (φAwake10 )), (9, .p (φParseOk uParseOk uParseOk1 uParseOk2 uParseOk3 uParseOk4 uParseOk5 uParseOk6)), (12, .p (φRParseOk uRParseOk uRParseOk1 uRParseOk2 uRParseOk3 uRParseOk4 uRParseOk5 uRParseOk6 uRParseOk7)), (10, .p (φSameCf uSameCf uSameCf1))] := ⟨φAwake10_ok, (by rw [huParseOk, huParseOk1, huParseOk2, huParseOk3, huParseOk4, huParseOk5, huParseOk6]; exact φParseOk_ok), (by rw [huRParseOk, huRParseOk1, huRParseOk2, huRParseOk3, huRParseOk4, huRParseOk5, huRParseOk6, huRParseOk7]; exact φRParseOk_ok), (by rw [huSameCf, huSameCf1]; exact φSameCf_ok), trivial⟩
    refine ESpec.enter Tryd.func4 (by kernel_rfl) rfl (Nat.le_of_ble_eq_true rfl) fun hok cx hnt hfr => ?_
    obtain ⟨F, hF⟩ := real_ex
    refine AK.runT hF tabOK hmix hnt hfr true _ hG ?_
    conv => arg 4; cbv
    refine AKt.need rfl fun _ => AKt.no (by rw [hF]; rfl) ?_
    refine AKt.node (fun c1 => ?_) (fun c1 => ?_)
    · repeat' (first | with_reducible (first | refine AKt.have ?_ | refine AKt.tt ?_ | refine AKt.ff ?_ | refine AKt.yes (by assumption) ?_ | refine AKt.no (by assumption) ?_ | refine AKt.node (fun hb => ?_) (fun hb => ?_) | refine AKt.need ?_ (fun hb => ?_) | refine AKt.leaf ?_) | ((with_reducible show _ = true); assumption))
      refine AKp.doneE tabOK hfr (by rfl) ?_
      show _ = _
      simp only [tupAV]
    obtain ⟨C, hC⟩ : ∃ z, z = parC s := ⟨_, rfl⟩
    obtain ⟨a, ha⟩ : ∃ z, z = C.tt := ⟨_, rfl⟩
    obtain ⟨b, hb⟩ : ∃ z, z = C.pe := ⟨_, rfl⟩
    obtain ⟨c, hc⟩ : ∃ z, z = C.pr := ⟨_, rfl⟩
    obtain ⟨d, hd⟩ : ∃ z, z = C.mo := ⟨_, rfl⟩
    obtain ⟨ls, hls⟩ : ∃ z, z = lvDs C.ls := ⟨_, rfl⟩
    obtain ⟨ss, hss⟩ : ∃ z, z = smDs C.ss := ⟨_, rfl⟩
    have h : isCf0 ls ss = true := by rw [hls, hss]; exact isCf_ofX C
    have y1 : uParseOk1 s = a := by rw [huParseOk1]; show (parC s).tt = a; rw [← hC, ha]
    have y2 : uParseOk2 s = b := by rw [huParseOk2]; show (parC s).pe = b; rw [← hC, hb]
    have y3 : uParseOk3 s = c := by rw [huParseOk3]; show (parC s).pr = c; rw [← hC, hc]
    have y4 : uParseOk4 s = d := by rw [huParseOk4]; show (parC s).mo = d; rw [← hC, hd]
    have y5 : uParseOk5 s = ls := by rw [huParseOk5]; show lvDs (parC s).ls = ls; rw [← hC, hls]
    have y6 : uParseOk6 s = ss := by rw [huParseOk6]; show smDs (parC s).ss = ss; rw [← hC, hss]
    have z1 : uRParseOk1 s = a := by rw [huRParseOk1]; show (parC s).tt = a; rw [← hC, ha]
    have z2 : uRParseOk2 s = b := by rw [huRParseOk2]; show (parC s).pe = b; rw [← hC, hb]
    have z3 : uRParseOk3 s = c := by rw [huRParseOk3]; show (parC s).pr = c; rw [← hC, hc]
    have z4 : uRParseOk4 s = d := by rw [huRParseOk4]; show (parC s).mo = d; rw [← hC, hd]
    have z5 : uRParseOk5 s = ls := by rw [huRParseOk5]; show lvDs (parC s).ls = ls; rw [← hC, hls]
    have z6 : uRParseOk6 s = ss := by rw [huRParseOk6]; show smDs (parC s).ss = ss; rw [← hC, hss]
    rw [y1, y2, y3, y4, y5, y6, z1, z2, z3, z4, z5, z6]
    have p1 : uParseOk s = true := by rw [huParseOk]; exact decide_eq_true hcode
    have p2 : uRParseOk s = true := by rw [huRParseOk]; exact decide_eq_true hcode
    have p6 : uSameCf ls ss ls ss = true := by rw [huSameCf]; show (isCf0 ls ss && isCf0 ls ss) = true; rw [h]; rfl
    have p7 : uSameCf1 a b c d ls ss a b c d ls ss = true := by rw [huSameCf1]; exact decide_eq_true rfl
    refine AKt.need p1 fun _ => AKt.need p2 fun _ => ?_
    refine AKt.yes (by rw [hF]; rfl) (AKt.yes rfl (AKt.need p6 fun _ => ?_))
    repeat' (first | with_reducible (first | refine AKt.have ?_ | refine AKt.tt ?_ | refine AKt.ff ?_ | refine AKt.yes (by assumption) ?_ | refine AKt.no (by assumption) ?_ | refine AKt.node (fun hb => ?_) (fun hb => ?_) | refine AKt.need ?_ (fun hb => ?_) | refine AKt.leaf ?_) | ((with_reducible show _ = true); assumption))
    refine AKp.doneE tabOK hfr (by rfl) ?_
    show _ = _
    simp only [tupAV]
    rw [p7]
  · have _ := hcode
    obtain ⟨uParseBad, huParseBad⟩ : ∃ u : Wd → Bool, u = badP := ⟨_, rfl⟩
    obtain ⟨uParseBad1, huParseBad1⟩ : ∃ u : Wd → Int, u = fun s => (parF s).2.2 := ⟨_, rfl⟩
    obtain ⟨uParseBad2, huParseBad2⟩ : ∃ u : Wd → Int, u = fun s => (parF s).2.1 := ⟨_, rfl⟩
    obtain ⟨uRParseBad, huRParseBad⟩ : ∃ u : Wd → Bool, u = badP := ⟨_, rfl⟩
    obtain ⟨uRParseBad1, huRParseBad1⟩ : ∃ u : Wd → Int, u = fun s => (parF s).2.2 := ⟨_, rfl⟩
    obtain ⟨uRParseBad2, huRParseBad2⟩ : ∃ u : Wd → Int, u = fun s => (parF s).2.1 := ⟨_, rfl⟩
    obtain ⟨uSameCf, huSameCf⟩ : ∃ u : List Dat → List Dat → List Dat → List Dat → Bool, u = fun ls ss ks ts => isCf0 ls ss && isCf0 ks ts := ⟨_, rfl⟩
    obtain ⟨uSameCf1, huSameCf1⟩ : ∃ u : Int → Int → Int → Int → List Dat → List Dat → Int → Int → Int → Int → List Dat → List Dat → Bool, u = fun a b c d ls ss a2 b2 c2 d2 ks ts => sameC ⟨a, b, c, d, unLv ls, unSm ss⟩ ⟨a2, b2, c2, d2, unLv ks, unSm ts⟩ := ⟨_, rfl⟩
    have hG : TblOK Tryd.prog [(8, .p (φAwake10 )), (9, .p (φParseBad uParseBad uParseBad1 uParseBad2)), (12, .p (φRParseBad uRParseBad uRParseBad1 uRParseBad2)), (10, .p (φSameCf uSameCf uSameCf1)), (13, .p (φFCode )), (14, .p (φFLine ))] := ⟨φAwake10_ok, (by rw [huParseBad, huParseBad1, huParseBad2]; exact φParseBad_ok), (by rw [huRParseBad, huRParseBad1, huRParseBad2]; exact φRParseBad_ok), (by rw [huSameCf, huSameCf1]; exact φSameCf_ok), φFCode_ok, φFLine_ok, trivial⟩
    refine ESpec.enter Tryd.func4 (by kernel_rfl) rfl (Nat.le_of_ble_eq_true rfl) fun hok cx hnt hfr => ?_
    obtain ⟨F, hF⟩ := real_ex
    refine AK.runT hF tabOK hmix hnt hfr true _ hG ?_
    conv => arg 4; cbv
    refine AKt.need rfl fun _ => AKt.no (by rw [hF]; rfl) ?_
    refine AKt.node (fun c1 => ?_) (fun c1 => ?_)
    · repeat' (first | with_reducible (first | refine AKt.have ?_ | refine AKt.tt ?_ | refine AKt.ff ?_ | refine AKt.yes (by assumption) ?_ | refine AKt.no (by assumption) ?_ | refine AKt.node (fun hb => ?_) (fun hb => ?_) | refine AKt.need ?_ (fun hb => ?_) | refine AKt.leaf ?_) | ((with_reducible show _ = true); assumption))
      refine AKp.doneE tabOK hfr (by rfl) ?_
      show _ = _
      simp only [tupAV]
    have p1 : uParseBad s = true := by rw [huParseBad]; exact decide_eq_true hcode
    have p2 : uRParseBad s = true := by rw [huRParseBad]; exact decide_eq_true hcode
    obtain ⟨n, hn⟩ : ∃ z, z = (parF s).2.2 := ⟨_, rfl⟩
    obtain ⟨e, he⟩ : ∃ z, z = (parF s).2.1 := ⟨_, rfl⟩
    have y1 : uParseBad1 s = n := by rw [huParseBad1, hn]
    have y2 : uParseBad2 s = e := by rw [huParseBad2, he]
    have z1 : uRParseBad1 s = n := by rw [huRParseBad1, hn]
    have z2 : uRParseBad2 s = e := by rw [huRParseBad2, he]
    rw [y1, y2, z1, z2]
    refine AKt.need p1 fun _ => AKt.need p2 fun _ => ?_
    have e1 : F .eqI e 0 = false := by rw [hF, f_eqI]; exact decide_eq_false (by rw [he]; exact hcode)
    have e2 : F .eqI e e = true := by rw [hF, f_eqI]; exact beq_self_eq_true _
    have e3 : F .eqI n n = true := by rw [hF, f_eqI]; exact beq_self_eq_true _
    refine AKt.no e1 (AKt.yes (by rw [hF]; rfl) (AKt.need rfl fun _ => (AKt.yes e2 (AKt.need rfl fun _ => (AKt.yes e3 (AKt.need (by rw [huSameCf]; rfl) fun _ => ?_))))))
    repeat' (first | with_reducible (first | refine AKt.have ?_ | refine AKt.tt ?_ | refine AKt.ff ?_ | refine AKt.yes (by assumption) ?_ | refine AKt.no (by assumption) ?_ | refine AKt.node (fun hb => ?_) (fun hb => ?_) | refine AKt.need ?_ (fun hb => ?_) | refine AKt.leaf ?_) | ((with_reducible show _ = true); assumption))
    refine AKp.doneE tabOK hfr (by rfl) ?_
    show _ = _
    simp only [tupAV]
    rw [huSameCf1]
    rfl
end Go.Proofs.YtljidkmppeaecaaDoor

