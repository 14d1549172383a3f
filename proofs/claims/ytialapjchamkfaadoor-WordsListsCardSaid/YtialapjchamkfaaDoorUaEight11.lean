/- Powers of two. -/
import Derived.Test.YtialapjchamkfaaDoorUaEight10
namespace Go.Proofs.YtialapjchamkfaaDoor
open Go Go.Proofs Go.Ua Go.Extern
set_option linter.unusedVariables false
set_option linter.unusedSimpArgs false

theorem AKp.pure1 {cx : Cx Tryd.prog} {Q : Exit → Act → World → Prop} {F : Fam} (hF : F = Fam.real) {n : Nat} (hn : cx.nt = n) {all r : List Oper} {k : List KI} {S : St} {o : Oper} (z : AV) (hg : guardB all S o = some true) (hd : dstB n o = true)
    (H : ∀ ι a w, Rel cx.X cx.L cx.w0 cx.nt ι S a w → ∃ v, (execOp a.eval o).run Tryd.prog w = .ok (.value v) w ∧ RepV (rdOf cx.L ι S.h w) ι z v)
    (next : AKp Tryd.prog cx Q (runC (Ar.of F) tab n 100000 (.ops all r :: k) (S.put o.dst z))) : AKp Tryd.prog cx Q (.ops all (o :: r) :: k, S) := by
  refine AKp.op (S' := S) hF tabOK hn hg hd (fun ι a w HR => ?_) next
  obtain ⟨v, h1, h2⟩ := H ι a w HR
  exact ⟨v, w, ι, h1, HR, h2⟩

theorem isPow_spec : ESpec Tryd.prog 83 [.d (.s (.int .i64 16))] (fun x => x = .d (.s (.bool true))) := by
  refine ESpec.enter Tryd.func83 (by kernel_rfl) rfl (Nat.le_of_ble_eq_true rfl) fun _ cx hnt hfr => ?_
  obtain ⟨F, hF⟩ := real_ex
  refine AK.run hF tabOK hnt ?_
  conv => arg 4; cbv
  rw [show F .eqI (F .bits .and .i64 16 (F .wrap .i64 (F .sub 16 1))) 0 = true by rw [hF]; decide +kernel]
  exact AKp.doneE tabOK hfr (by rfl) (by rfl)

theorem at5 (w : World) : (Instr.indexAt 106 (.pointer (some ⟨5, 0, none⟩)) (.int .u64 15)).run Tryd.prog w = .ok (.pointer (some ⟨5, 15, none⟩)) w := by kernel_rfl
theorem TZ64_spec : ESpec Tryd.prog 90 [.d (.s (.int .u64 16))] (fun x => x = .d (.s (.int .i64 4))) := by
  refine ESpec.enter Tryd.func90 (by kernel_rfl) rfl (Nat.le_of_ble_eq_true rfl) fun _ cx hnt hfr => ?_
  obtain ⟨F, hF⟩ := real_ex
  refine AK.run hF tabOK hnt ?_
  conv => arg 4; cbv
  rw [show F .eqI 16 0 = false by rw [hF]; decide +kernel]
  conv => arg 4; cbv
  rw [show F .shr .u64 (F .wrap .u64 (F .mul (F .bits .and .u64 16 (F .wrap .u64 (F .sub 0 16))) 285870213051353865)) 58 = some 15 by rw [hF]; decide +kernel]
  conv => arg 4; cbv
  rw [show F .inB 15 64 = some 15 by rw [hF]; decide +kernel]
  conv => arg 4; cbv
  refine AKp.pure1 hF hnt (.d (.s (.tok 5 15))) rfl rfl (fun ι a w HR => ?_) ?_
  · have h2 : a.eval (.tmp 10) = .int .u64 15 := rep_s (HR.evl (.tmp 10))
    refine ⟨.pointer (some ⟨5, 15, none⟩), ?_, .d _ _ (.s (.tok 5 15) trivial)⟩
    simp only [execOp, h2]
    rw [show a.eval (.global 5) = .pointer (some ⟨5, 0, none⟩) from rfl]
    simp only [Sem.run_bind, at5, Result.andThen_ok, Sem.run_pure]
  conv => arg 4; cbv
  refine AKp.pure1 hF hnt (.d (.s (.int .u8 4))) rfl rfl (fun ι a w HR => ?_) ?_
  · have h2 : a.eval (.tmp 11) = .pointer (some ⟨5, 15, none⟩) := rep_s (HR.evl (.tmp 11))
    obtain ⟨h1, cs, tg, fz, hp, hb⟩ := cx.gok 5 _ (Or.inr (Or.inr ⟨rfl, rfl⟩))
    have hb0 : 5 < cx.w0.w.heap.size := (Array.getElem?_eq_some_iff.1 hb).1
    have hw : w.cell? ⟨5, 15, none⟩ = some (.int .u8 4) := by
      unfold World.cell?
      rw [HR.hr.kp.block 5 hb0 h1, hb]
      simpa using hp
    refine ⟨.int .u8 4, ?_, .d _ _ (.s (.int .u8 4) ⟨by decide, by decide⟩)⟩
    simp only [execOp, h2]
    simp [Sem.run_bind, Instr.loadAt, Instr.sureAddr, loadVar, isAgg, underlying, Tryd.underlying5, hw, Result.andThen]
  conv => arg 4; cbv
  rw [show F .wrap .i64 4 = 4 by rw [hF]; decide +kernel]
  exact AKp.doneE tabOK hfr (by rfl) (by rfl)

theorem TZ_spec : ESpec Tryd.prog 84 [.d (.s (.int .u64 16))] (fun x => x = .d (.s (.int .i64 4))) := by
  refine ESpec.enter Tryd.func84 (by kernel_rfl) rfl (Nat.le_of_ble_eq_true rfl) fun _ cx hnt hfr => ?_
  obtain ⟨F, hF⟩ := real_ex
  refine AK.run hF tabOK hnt ?_
  conv => arg 4; cbv
  refine AKp.call hF tabOK hnt TZ64_spec rfl rfl rfl rfl rfl rfl rfl (by repeat' first | exact .refl _ | constructor) ?_
  rintro _ rfl
  conv => arg 4; cbv
  exact AKp.doneE tabOK hfr (by rfl) (by rfl)
end Go.Proofs.YtialapjchamkfaaDoor
