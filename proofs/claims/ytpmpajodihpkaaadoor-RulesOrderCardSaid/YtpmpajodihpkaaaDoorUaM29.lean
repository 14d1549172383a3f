/- The library of this claim and its walks, part 29, joined out of smaller texts. No statement stands in it. -/
import Derived.Test.YtpmpajodihpkaaaDoorUaM27
/- Regions that draw their order, in which lists are made and grow. A library of this claim's own: no statement stands in it. -/
namespace Go.Ua
open Go Go.Proofs
set_option linter.unusedVariables false
set_option linter.unusedSimpArgs false
set_option linter.unusedSectionVars false
section
variable {P : Program} [Globs P] {τ : Tab} {cx : Cx P} {Q : Exit → Act → World → Prop}

/-! ### Regions that draw their order, in which lists are made and grow -/
def bs0 (τ : Tab) : Op → Option (Nat × TypeId)
  | .buildSlice t 0 parts => (match parts.toList, bsView τ t 0 [] with
    | [], some (kk, e, []) => some (kk, e)
    | _, _ => none)
  | _ => none
def delH (ns : List Nat) (h : List (Nat × Blk)) : List (Nat × Blk) := match ns with
  | [] => h
  | n :: r => del n (delH r h)
def allLt (m : Nat) : List Nat → Bool
  | [] => true
  | n :: r => (match Nat.blt n m with
    | true => allLt m r
    | false => false)
def apDT (F : Fam) (S : St) (e : TypeId) (y : Ty) (es2 : List Dat) : AV → Option (Bool × List Nat × Nat × TypeId × List Dat)
  | .row n k0 => (match look n S.h with
    | some (.ds E k1 es) => (match Nat.beq E e, Nat.beq k1 y.size, Nat.beq k0 y.size with
      | true, true, true => some (F .fits y.bytes (F .appD es es2), [n], y.size, e, F .appD es es2)
      | _, _, _ => none)
    | _ => none)
  | .d (.s .sl0) => some (F .fits y.bytes es2, [], y.size, e, es2)
  | _ => none
def apD (F : Fam) (τ : Tab) (S : St) : Op → Option (Bool × List Nat × Nat × TypeId × List Dat)
  | .call c => (match c.callee, c.argTypes.toList, c.args.toList with
    | .builtin .append, [t1, t2], [s, x] => (match kindOf τ t1, evl S x with
      | .slice e, .d (.view k es2) => (match look e τ with
        | some y => (match okZero y && (y.size != 0 && y.bytes != 0), Nat.beq t1 t2, Nat.beq k y.size with
          | true, true, true => apDT F S e y es2 (evl S s)
          | _, _, _ => none)
        | none => none)
      | _, _ => none)
    | _, _, _ => none)
  | _ => none
theorem look_delH {q : Nat} {h : List (Nat × Blk)} : ∀ {ns : List Nat}, look q (delH ns h) = if q ∈ ns then none else look q h
  | [] => by simp [delH]
  | a :: r => by
    unfold delH
    rw [look_del, look_delH (ns := r)]
    by_cases e : q = a
    · simp [e]
    · rw [if_neg e]; simp [e]
/-- A step that makes one row, and may take others away. -/
theorem DE.eff1 (hτ : TabOK P τ) {all r : List Oper} {id : Nat} {k : List KI} {S0 S : St} {o : Oper} {E : TypeId} {kk : Nat} {es : List Dat} {ns : List Nat} {fps : List Fp} (hw0 : cx.w0.fr ≤ S0.fr) (hle : S0.fr ≤ S.fr) (hns : allLt S.fr ns = true)
    (hc : ∀ S1 : St, (∀ x, x ∈ o.op.operands.toList → evl S1 x = evl S x) → (∀ n, n ∈ ns → look n S1.h = look n S.h) → effOp Ar.real τ S1 o.op = some (.row S1.fr kk, ⟨S1.t, (S1.fr, .ds E kk es) :: delH ns S1.h, S1.fr + 1⟩))
    (hg : guardB all S o = some true) (hd : ∀ d, o.dst = some d → d < cx.nt)
    (next : DE P cx Q all id k S0 (fps ++ [(ns, ns ++ [S.fr])]) r (St.put ⟨S.t, (S.fr, .ds E kk es) :: delH ns S.h, S.fr + 1⟩ o.dst (.row S.fr kk))) : DE P cx Q all id k S0 fps (o :: r) S := by
  refine DE.snoc (.row S.fr kk) _ (ns, ns ++ [S.fr]) (fun j hj => ⟨by cases o.dst <;> rfl, fun q hq => ?_, by rw [put_fr]; exact Nat.le_succ _, ?_⟩) next
  · simp only [List.mem_append, List.mem_singleton, not_or] at hq
    rw [put_h]
    simp only [look_cons]
    rw [if_neg (fun e => hq.2 e.symm), look_delH, if_neg hq.1]
  intro Q' K ι S1 a w H hfr h1 h2 h3 hK
  rw [put_fr] at hfr h3
  simp only at hfr h3
  have hN : ι S.fr = none := h3 _ (Nat.le_refl _) (Nat.lt_succ_self _)
  have hlt : S.fr < S1.fr := hfr
  unfold wpOp
  rw [show all.toArray[j]? = some o by simpa using hj]
  simp only
  rw [guardB_spec H (by rw [guardB_congr h1]; exact hg), if_pos rfl]
  have heff := hc S1 (evl_looks h1) (fun n hn => h2 n (.inl hn))
  obtain ⟨v, w', ι', hrun, H1, hrep⟩ := effOp_run hτ H heff
  have H' := H1.put hd hrep
  refine .inl ?_
  have hne : K (a.put o.dst v) w' → o.wp P a w K Q' := by
    intro hk
    unfold Oper.wp
    rcases hrun with hrun | ⟨hrun, rfl⟩
    · rw [hrun]; exact hk
    · rw [hrun]; exact hk
  refine hne ?_
  let rr : Nat → Nat := fun n => if n = S.fr then S1.fr else if S0.fr ≤ n ∧ (ι n).isNone = true then S1.fr + 1 + n + 1 else n
  have rN : rr S.fr = S1.fr := by show (if S.fr = S.fr then _ else _) = _; rw [if_pos rfl]
  have rO : ∀ n p, ι n = some p → rr n = n := fun n p h => by
    show (if n = S.fr then _ else if S0.fr ≤ n ∧ (ι n).isNone = true then _ else n) = n
    rw [if_neg (fun e => by rw [e, hN] at h; cases h), h, if_neg (by simp)]
  have old : ∀ n B, look n S1.h = some B → n < S1.fr ∧ B.lt S1.fr = true ∧ rr n = n ∧ B.ren rr = B := fun n B hB => by
    have hb := H.hr.hp n B hB
    obtain ⟨g1, g2⟩ := hb.lt_of H.hr.fresh
    obtain ⟨g3, g4⟩ := RepB.fix rO hb
    exact ⟨g1, g2, g3, g4⟩
  obtain ⟨S2, hS2⟩ : ∃ S2, S2 = St.put ⟨S1.t, (S.fr, .ds E kk es) :: delH ns S1.h, S1.fr⟩ o.dst (.row S.fr kk) := ⟨_, rfl⟩
  have hle2 : St.le rr (St.put ⟨S1.t, (S1.fr, .ds E kk es) :: delH ns S1.h, S1.fr + 1⟩ o.dst (.row S1.fr kk)) S2 := by
    subst hS2
    refine ⟨fun t y h => ?_, fun n B hB => ?_, fun n m g1 g2 g3 => ?_⟩
    · rw [put_fr]
      have key : ∀ y, look t S1.t = some y → y.lt S1.fr = true ∧ y.ren rr = y := fun y h => by
        have hv := H.tm t y h
        exact ⟨hv.lt_of H.hr.fresh, RepV.fix rO _ _ hv⟩
      cases hdst : o.dst with
      | none =>
        rw [hdst] at h
        obtain ⟨g1, g2⟩ := key y h
        exact ⟨g1, .inl (by rw [g2]; exact h)⟩
      | some d =>
        rw [hdst] at h
        simp only [St.put, look_cons, look_del] at h ⊢
        split at h
        · rename_i e
          obtain rfl := Option.some.inj h
          exact ⟨by simpa [AV.lt, Nat.blt_eq] using hlt, .inl (by rw [if_pos e]; show some (AV.row S1.fr kk) = some (AV.row (rr S.fr) kk); rw [rN])⟩
        · rename_i e
          split at h
          · cases h
          · rename_i e2
            obtain ⟨g1, g2⟩ := key y h
            exact ⟨g1, .inl (by rw [if_neg e, if_neg e2, g2]; exact h)⟩
    · rw [put_h] at hB
      rw [put_fr, put_h]
      simp only [look_cons] at hB ⊢
      split at hB
      · rename_i e
        obtain rfl := Option.some.inj hB
        subst e
        refine ⟨hlt, rfl, ?_⟩
        rw [rN, if_pos rfl]
        rfl
      · rename_i hn
        rw [look_delH] at hB
        split at hB
        · cases hB
        rename_i hq
        obtain ⟨q1, q2, q3, q4⟩ := old n B hB
        refine ⟨q1, q2, ?_⟩
        rw [q3, q4, if_neg (by omega), look_delH, if_neg hq]
        exact hB
    · rw [put_h] at g1 g2
      have cl : ∀ n, (look n ((S.fr, Blk.ds E kk es) :: delH ns S1.h)).isSome = true → n = S.fr ∨ (rr n = n ∧ n < S1.fr) := fun n hn => by
        rw [look_cons] at hn
        split at hn
        · rename_i e
          exact .inl e.symm
        · rw [look_delH] at hn
          split at hn
          · cases hn
          · obtain ⟨B, hB⟩ := Option.isSome_iff_exists.1 hn
            obtain ⟨q1, q2, q3, q4⟩ := old n B hB
            exact .inr ⟨q3, q1⟩
      rcases cl n g1 with e1 | ⟨a1, a2⟩ <;> rcases cl m g2 with e2 | ⟨b1, b2⟩
      · rw [e1, e2]
      · rw [e1, rN, b1] at g3; omega
      · rw [e2, rN, a1] at g3; omega
      · rw [a1, b1] at g3; exact g3
  have hold : ∀ n, n < cx.w0.fr → n < S2.fr ∧ rr n = n := fun n hn => by
    subst hS2
    rw [put_fr]
    refine ⟨by show n < S1.fr; omega, ?_⟩
    show (if n = S.fr then _ else if S0.fr ≤ n ∧ (ι n).isNone = true then _ else n) = n
    rw [if_neg (by omega), if_neg (by omega)]
  obtain ⟨l1, l2, l3⟩ := hle2
  obtain ⟨g1, g2, g3⟩ := H'.hr.keep hold l2 l3
  have fin : Rel cx.X cx.L cx.w0 cx.nt (fun n => if n < S2.fr then ι' (rr n) else none) S2 (a.put o.dst v) w' := by
    refine ⟨g1, fun t y hy => ?_, H'.sz, H'.df⟩
    obtain ⟨h4, h5⟩ := l1 t y hy
    rcases h5 with h5 | rfl
    · exact ((H'.tm t _ h5).ren_inv g3 y h4 rfl).mono g2 (fun _ _ h => h)
    · exact .any _
  refine hK _ _ w' S2 ?_ (fun q hq => ?_) (fun q hq => ?_) ?_ (fun q hq hι hout => ?_) fin
  · subst hS2; cases o.dst <;> rfl
  · subst hS2
    rw [put_h, put_h]
    simp only [look_cons]
    split
    · rfl
    · rename_i hne
      rw [look_delH, look_delH]
      split
      · rfl
      · rename_i hq2
        simp only [List.mem_append, List.mem_singleton] at hq
        rcases hq with hq | hq
        · exact absurd hq hq2
        · exact absurd hq.symm hne
  · subst hS2
    simp only [List.mem_append, List.mem_singleton, not_or] at hq
    rw [put_h]
    simp only [look_cons]
    rw [if_neg (fun e => hq.2 e.symm), look_delH, if_neg hq.1]
  · subst hS2; rw [put_fr]
  · rw [put_fr] at hout
    simp only at hout
    show (if q < S2.fr then ι' (rr q) else none) = none
    split
    · have er : rr q = S1.fr + 1 + q + 1 := by
        show (if q = S.fr then _ else if S0.fr ≤ q ∧ (ι q).isNone = true then _ else q) = _
        rw [if_neg (by omega), hι, if_pos ⟨hq, rfl⟩]
      rw [er]
      exact H'.hr.fresh _ (by rw [put_fr]; show S1.fr + 1 ≤ _; omega)
    · rfl
theorem DE.bs0 (hτ : TabOK P τ) {all r : List Oper} {id : Nat} {k : List KI} {S0 S : St} {o : Oper} {kk : Nat} {e : TypeId} {fps : List Fp} (hw0 : cx.w0.fr ≤ S0.fr) (hle : S0.fr ≤ S.fr) (hc : bs0 τ o.op = some (kk, e)) (hg : guardB all S o = some true) (hd : ∀ d, o.dst = some d → d < cx.nt)
    (next : DE P cx Q all id k S0 (fps ++ [([], [S.fr])]) r (St.put ⟨S.t, (S.fr, .ds e kk []) :: S.h, S.fr + 1⟩ o.dst (.row S.fr kk))) : DE P cx Q all id k S0 fps (o :: r) S := by
  refine DE.eff1 (ns := []) hτ hw0 hle rfl (fun S1 h1 h2 => ?_) hg hd next
  unfold Ua.bs0 at hc
  split at hc
  · rename_i t parts ho
    split at hc
    · rename_i k2 e2 hp hv
      simp only [Option.some.injEq, Prod.mk.injEq] at hc
      obtain ⟨rfl, rfl⟩ := hc
      simp only [effOp, ho, hp, evps]
      exact bsView_op hv S1
    · cases hc
  · cases hc
theorem apD_eff {S : St} {op : Op} {ns : List Nat} {kk : Nat} {e : TypeId} {es : List Dat} (hc : apD Fam.real τ S op = some (true, ns, kk, e, es)) (S1 : St) (h1 : ∀ x, x ∈ op.operands.toList → evl S1 x = evl S x) (h2 : ∀ n, n ∈ ns → look n S1.h = look n S.h) :
    effOp Ar.real τ S1 op = some (.row S1.fr kk, ⟨S1.t, (S1.fr, .ds e kk es) :: delH ns S1.h, S1.fr + 1⟩) := by
  unfold apD at hc
  split at hc
  · rename_i c
    split at hc
    · rename_i t1 t2 s x q1 q2 q3
      have es_ : evl S1 s = evl S s := h1 s (by simp [Op.operands, Call.operands, q1, q3])
      have ex_ : evl S1 x = evl S x := h1 x (by simp [Op.operands, Call.operands, q1, q3])
      split at hc
      · rename_i e1 k es2 hk hx
        split at hc
        · rename_i y hy
          split at hc
          · rename_i c1 c2 c3
            simp only [effOp, q1, q2, q3, appendOp, hk, hy, c1, c2, es_, ex_, hx, srcOf]
            rw [if_pos (Nat.eq_of_beq_eq_true c3)]
            unfold apDT at hc
            split at hc
            · rename_i n k0 hs
              split at hc
              · rename_i E k1 es0 hl
                split at hc
                · rename_i b1 b2 b3
                  simp only [Option.some.injEq, Prod.mk.injEq] at hc
                  obtain ⟨hf, rfl, rfl, rfl, rfl⟩ := hc
                  simp only [appG, hs]
                  rw [h2 n (by simp), hl]
                  simp only
                  rw [if_pos ⟨Nat.eq_of_beq_eq_true b1, Nat.eq_of_beq_eq_true b2, Nat.eq_of_beq_eq_true b3⟩]
                  have e1 : Ar.real.fits y.bytes (Ar.real.appD es0 es2) = true := hf
                  rw [e1]
                  rfl
                · cases hc
              · cases hc
            · rename_i hs
              simp only [Option.some.injEq, Prod.mk.injEq] at hc
              obtain ⟨hf, rfl, rfl, rfl, rfl⟩ := hc
              have e1 : Ar.real.fits y.bytes es2 = true := hf
              simp only [appG, hs, e1]
              rfl
            · cases hc
          · cases hc
        · cases hc
      · cases hc
    · cases hc
  · cases hc
theorem DE.apD (hτ : TabOK P τ) {all r : List Oper} {id : Nat} {k : List KI} {S0 S : St} {o : Oper} {b : Bool} {ns : List Nat} {kk : Nat} {e : TypeId} {es : List Dat} {fps : List Fp} (hw0 : cx.w0.fr ≤ S0.fr) (hle : S0.fr ≤ S.fr) (hc : apD Fam.real τ S o.op = some (b, ns, kk, e, es)) (hb : b = true) (hns : allLt S.fr ns = true)
    (hg : guardB all S o = some true) (hd : ∀ d, o.dst = some d → d < cx.nt)
    (next : DE P cx Q all id k S0 (fps ++ [(ns, ns ++ [S.fr])]) r (St.put ⟨S.t, (S.fr, .ds e kk es) :: delH ns S.h, S.fr + 1⟩ o.dst (.row S.fr kk))) : DE P cx Q all id k S0 fps (o :: r) S := by
  subst hb
  exact DE.eff1 hτ hw0 hle hns (fun S1 h1 h2 => apD_eff hc S1 h1 h2) hg hd next

def runD2 (F : Fam) (τ : Tab) (nt : Nat) (G : Tbl) (all : List Oper) (st : Tree) (K : List Oper → List Nat → St → Tree) : Nat → Nat → List Fp → List Nat → List Oper → St → Tree
  | 0, _, _, _, _, _ => st
  | f + 1, j, fps, dc, [], S => (match chkE fps all with
    | true => K [] dc S
    | false => st)
  | f + 1, j, fps, dc, o :: r, S => (match chkTail all j (o :: r) with
    | true => (match chkE fps all with
      | true => K (o :: r) dc S
      | false => st)
    | false => (match askG dc all S o with
      | some (d, b) => .node b (runD2 F τ nt G all st K f j fps (d :: dc) (o :: r) (S.lit d true)) (runD2 F τ nt G all st K f j fps (d :: dc) (o :: r) (S.lit d false))
      | none => (match (match o.dst with
          | some d => Nat.blt d nt
          | none => true), guardB all S o with
        | true, some true => (match askP dc S o.op with
          | some (d, b) => .node b (runD2 F τ nt G all st K f j fps (d :: dc) (o :: r) (S.lit d true)) (runD2 F τ nt G all st K f j fps (d :: dc) (o :: r) (S.lit d false))
          | none => (match callT τ G S o.op with
            | some (b, z) => .need b (runD2 F τ nt G all st K f (j + 1) (fps ++ [([], [])]) (dcP dc o.dst false) r (S.put o.dst z))
            | none => (match callN G S o.op with
            | some (b, x, h', fr') => .need b (runD2 F τ nt G all st K f (j + 1) (fps ++ [([], rngN S.fr fr')]) (dcP dc o.dst false) r (St.put ⟨S.t, appH (renH (nxt S.fr) h') S.h, S.fr + fr'⟩ o.dst (x.ren (nxt S.fr))))
            | none => (match opT F τ dc S o.op with
              | some (b, z) => .need b (runD2 F τ nt G all st K f (j + 1) (fps ++ [(topNs S o.op.operands.toList, [])]) (dcP dc o.dst (litO dc S o.op)) r (S.put o.dst z))
              | none => (match bs0 τ o.op with
                | some (kk, e) => runD2 F τ nt G all st K f (j + 1) (fps ++ [([], [S.fr])]) (dcP dc o.dst false) r (St.put ⟨S.t, (S.fr, .ds e kk []) :: S.h, S.fr + 1⟩ o.dst (.row S.fr kk))
                | none => (match apD F τ S o.op with
                | some (b, ns, kk, e, es) => (match allLt S.fr ns with
                  | true => .need b (runD2 F τ nt G all st K f (j + 1) (fps ++ [(ns, ns ++ [S.fr])]) (dcP dc o.dst false) r (St.put ⟨S.t, (S.fr, .ds e kk es) :: delH ns S.h, S.fr + 1⟩ o.dst (.row S.fr kk)))
                  | false => st)
                | none => (match viewO τ S o.op with
                | some z => runD2 F τ nt G all st K f (j + 1) (fps ++ [([], [])]) (dcP dc o.dst false) r (S.put o.dst z)
                | none => (match pureOp (Ar.of F) τ S o.op with
                    | some z => runD2 F τ nt G all st K f (j + 1) (fps ++ [(topNs S o.op.operands.toList, [])]) (dcP dc o.dst (litO dc S o.op)) r (S.put o.dst z)
                    | none => (match o.op with
                      | .alloc t => (match look t τ with
                        | some y => (match okZero y with
                          | true => runD2 F τ nt G all st K f (j + 1) (fps ++ [([], [S.fr])]) (dcP dc o.dst false) r ((S.new (.cs t (zcells y))).put o.dst (.ptr S.fr 0 0 y.size))
                          | false => st)
                        | none => st)
                      | .store t p x => (match evl S p, sizeAt τ t with
                        | .ptr n i off k, _ + 1 => (match storeB (Ar.of F) τ t i off k (evl S x) (look n S.h) with
                          | some B => runD2 F τ nt G all st K f (j + 1) (fps ++ [([], [n])]) (dcP dc o.dst false) r ((S.wr n B).put o.dst (.tup []))
                          | none => st)
                        | _, _ => st)
                      | _ => st)))))))))
        | true, some false => runD2 F τ nt G all st K f (j + 1) (fps ++ [([], [])]) (dcP dc o.dst false) r (S.put o.dst (.tup []))
        | _, _ => st)))
theorem runD2_ok (hτ : TabOK P τ) (hm : P.follows .mixedOrders = true) {G : Tbl} (hG : TblOK P G) {all : List Oper} {id : Nat} {k : List KI} {S0 : St} (hw0 : cx.w0.fr ≤ S0.fr) {st : Tree} {K : List Oper → List Nat → St → Tree}
    (hst : AKm P cx Q st → AK P cx Q (.code (.region id all.toArray true) :: k) S0) (hK : ∀ rest dc S, cx.w0.fr ≤ S.fr → AKm P cx Q (K rest dc S) → AK P cx Q (.ops all rest :: k) S) :
    ∀ (f j : Nat) (fps : List Fp) (dc : List Nat) (r : List Oper) (S : St), S0.fr ≤ S.fr → AKm P cx Q (runD2 Fam.real τ cx.nt G all st K f j fps dc r S) → DE P cx Q all id k S0 fps r S
  | 0, j, fps, dc, r, S, h0, h => fun _ _ _ _ _ _ => hst (by unfold runD2 at h; exact h)
  | f + 1, j, fps, dc, [], S, h0, h => by
    unfold runD2 at h
    split at h
    · rename_i hc
      exact DE.fin hm hc (hK _ _ _ (Nat.le_trans hw0 h0) h)
    · exact fun _ _ _ _ _ _ => hst h
  | f + 1, j, fps, dc, o :: r, S, h0, h => by
    have ih := runD2_ok hτ hm hG hw0 hst hK f
    have hp : ∀ z, S0.fr ≤ (S.put o.dst z).fr := fun z => by rw [put_fr]; exact h0
    have ask : ∀ (d : Nat) (b : Bool), look d S.t = some (.d (.s (.bool b))) → AKm P cx Q (.node b (runD2 Fam.real τ cx.nt G all st K f j fps (d :: dc) (o :: r) (S.lit d true)) (runD2 Fam.real τ cx.nt G all st K f j fps (d :: dc) (o :: r) (S.lit d false))) → DE P cx Q all id k S0 fps (o :: r) S := by
      intro d b hl h
      cases b
      · have := ih _ _ _ _ _ (by rw [lit_fr]; exact h0) (h.2 rfl)
        rwa [lit_id hl] at this
      · have := ih _ _ _ _ _ (by rw [lit_fr]; exact h0) (h.1 rfl)
        rwa [lit_id hl] at this
    unfold runD2 at h
    split at h
    · split at h
      · rename_i hc
        exact DE.fin hm hc (hK _ _ _ (Nat.le_trans hw0 h0) h)
      · exact fun _ _ _ _ _ _ => hst h
    · split at h
      · rename_i d b hask
        exact ask d b (askG_look hask) h
      · split at h
        · rename_i hd hg
          split at h
          · rename_i d b hask
            exact ask d b (askP_look hask) h
          · split at h
            · rename_i b z hc
              exact DE.callT hG hw0 h0 hc h.1 hg (dst_lt hd) (ih _ _ _ _ _ (hp _) (h.2 h.1))
            · split at h
              · rename_i b x h' fr' hc
                exact DE.callN hG hw0 h0 hc h.1 hg (dst_lt hd) (ih _ _ _ _ _ (by rw [put_fr]; exact Nat.le_trans h0 (Nat.le_add_right _ _)) (h.2 h.1))
              split at h
              · rename_i b z hc
                exact DE.pure hτ (opT_pure hc h.1) hg (dst_lt hd) (ih _ _ _ _ _ (hp _) (h.2 h.1))
              · split at h
                · rename_i kk e hc
                  exact DE.bs0 hτ hw0 h0 hc hg (dst_lt hd) (ih _ _ _ _ _ (by rw [put_fr]; exact Nat.le_trans h0 (Nat.le_succ _)) h)
                split at h
                · rename_i b ns kk e es hc
                  split at h
                  · rename_i hlt
                    exact DE.apD hτ hw0 h0 hc h.1 hlt hg (dst_lt hd) (ih _ _ _ _ _ (by rw [put_fr]; exact Nat.le_trans h0 (Nat.le_succ _)) (h.2 h.1))
                  · exact fun _ _ _ _ _ _ => hst h
                split at h
                · rename_i z hv
                  exact DE.viewO hτ hw0 h0 hv hg (dst_lt hd) (ih _ _ _ _ _ (hp _) h)
                · split at h
                  · rename_i z hz
                    exact DE.pure hτ hz hg (dst_lt hd) (ih _ _ _ _ _ (hp _) h)
                  · · split at h
                      · rename_i t ho
                        split at h
                        · rename_i y hy
                          split at h
                          · rename_i hz
                            exact DE.alloc hτ ho hy hz hg (dst_lt hd) (ih _ _ _ _ _ (by rw [put_fr]; exact Nat.le_trans h0 (Nat.le_succ _)) h)
                          · exact fun _ _ _ _ _ _ => hst h
                        · exact fun _ _ _ _ _ _ => hst h
                      · rename_i t p x ho
                        split at h
                        · rename_i n i off k' m hp' hs
                          split at h
                          · rename_i B hB
                            exact DE.store hτ ho hp' hs hB hg (dst_lt hd) (ih _ _ _ _ _ (by rw [put_fr]; exact h0) h)
                          · exact fun _ _ _ _ _ _ => hst h
                        · exact fun _ _ _ _ _ _ => hst h
                      · exact fun _ _ _ _ _ _ => hst h
        · rename_i hd hg
          exact DE.skip hg (dst_lt hd) (ih _ _ _ _ _ (hp _) h)
        · exact fun _ _ _ _ _ _ => hst h

theorem AKp.runD2 {F : Fam} (hF : F = Fam.real) (hτ : TabOK P τ) (hm : P.follows .mixedOrders = true) {n : Nat} (hn : cx.nt = n) (fz : Bool) (G : Tbl) (hG : TblOK P G) {id : Nat} {ops : Array Oper} {k : List KI} {S : St} (h0 : cx.w0.fr ≤ S.fr)
    (h : AKt P cx Q (runD2 F τ n G ops.toList (.leaf (.code (.region id ops true) :: k) S) (fun rest dc S => Ua.runT F τ n fz G [] 100000 dc (.ops ops.toList rest :: k) S) 10000 0 [] [] ops.toList S)) : AKp P cx Q (.code (.region id ops true) :: k, S) := by
  subst hF
  subst hn
  have := runD2_ok (P := P) (cx := cx) (Q := Q) (id := id) (k := k) (S0 := S) (all := ops.toList) (st := .leaf (.code (.region id ops true) :: k) S) hτ hm hG h0 (fun h => h) (fun rest dc S h0 h => AK.stepT hτ hm hG fz [] _ dc _ S h0 h) _ _ _ _ _ _ (Nat.le_refl _) h.m
  exact DE.start this
/-- Many paths come together, with blocks under other names: what follows is looked at once. -/
theorem AKp.joinR (rs : List (Nat × Nat)) {K k : List KI} (hK : K = k) {S : St} (S' : St) (h0 : cx.w0.fr = 0) (h1 : leT (rnm rs) S'.fr S.t S'.t) (h2 : leH (rnm rs) S'.fr S.h S'.h) (h3 : nodupB (keysR rs S'.h) = true) (h : AK P cx Q K S') : AKp P cx Q (k, S) := by
  subst hK
  exact AK.weaken (rnm rs) (fun n hn => by omega) (St.le_of h1 h2 (keys_inj h3)) h
end
end Go.Ua

/- The end of a function that was handed blocks and leaves others: rows renamed by appends. A library of this claim's own: no statement stands in it. -/
namespace Go.Ua
open Go Go.Proofs Go.RowKit
set_option linter.unusedVariables false
set_option linter.unusedSimpArgs false
set_option linter.unusedSectionVars false

section
variable {P : Program} [Globs P] {τ : Tab} {cx : Cx P} {Q : Exit → Act → World → Prop}
end
end Go.Ua

/- A row whose last element holds a row: shut and opened again. -/
namespace Go.Ua
open Go Go.RowKit
set_option linter.unusedVariables false
set_option linter.unusedSimpArgs false
section
variable {P : Program} [Globs P] {cx : Cx P} {Q : Exit → Act → World → Prop}
/-- Its last element holds data alone: it is a row like others. -/
theorem AKp.shut {kk : List KI} {S : St} (n : Nat) {E : TypeId} {k m : Nat} {es : List Dat} {cells : List AV} {ds : List Dat} (hb : look n S.h = some (.xs E k m es cells)) (hc : unDs cells = some ds) (he : es[m]? = some (.agg ds))
    (h : AKp P cx Q (kk, ⟨S.t, (n, .ds E k es) :: del n S.h, S.fr⟩)) : AKp P cx Q (kk, S) := by
  intro ι a w H
  refine h ι a w (H.redesc hb fun hB => ?_)
  have hcs := unDs_some hc
  cases hB with
  | xs0 => simp at he
  | xs _ _ _ _ _ b cap cur hi hbk hl hcap hm hk0 hlen hkl hk h1 hr hr2 =>
    have hdl : ds.length = k := by rw [← hkl, hcs]; simp
    refine .ds _ _ _ b cap cur hi hbk hl hcap hm hk0 (fun i e hie => ?_) h1 fun i e j c v hie hc' hv => ?_
    · by_cases hlt : i < m
      · exact hk i e hlt hie
      · have := (List.getElem?_eq_some_iff.1 hie).1
        obtain rfl : i = m := by omega
        rw [he] at hie
        obtain rfl := Option.some.inj hie
        exact hdl
    · by_cases hlt : i < m
      · exact hr i e j c v hlt hie hc' hv
      · have := (List.getElem?_eq_some_iff.1 hie).1
        obtain rfl : i = m := by omega
        rw [he] at hie
        obtain rfl := Option.some.inj hie
        have hc2 : ds[j]? = some c := hc'
        exact rep_d (hr2 j (.d c) v (by rw [hcs, List.getElem?_map, hc2]; rfl) hv)
theorem RepB.move {R R' : Rd} {ι ι' : Io} {w : World} {n n' : Nat} {B : Blk} (hR : ∀ b o v, R b o v → R' b o v) (hι : ∀ n p, ι n = some p → ι' n = some p) (hn : ∀ p, ι n = some p → ι' n' = some p) (h : RepB R ι w n B) : RepB R' ι' w n' B := by
  cases h with
  | cs T cells b cap l cur hi hb hl h1 h => exact .cs T cells b cap l cur (hn _ hi) hb hl h1 fun j c v h2 h3 => (h j c v h2 h3).mono hR hι
  | ds0 E k hi hk0 => exact .ds0 E k (hn _ hi) hk0
  | ds E k es b cap cur hi hb hl hc hm hk0 hk h1 h => exact .ds E k es b cap cur (hn _ hi) hb hl hc hm hk0 hk h1 fun i e j c v h2 h3 h4 => (h i e j c v h2 h3 h4).mono hR
  | xs E k m es cells b cap cur hi hb hl hc hm hk0 hlen hkl hk h1 h h2 => exact .xs E k m es cells b cap cur (hn _ hi) hb hl hc hm hk0 hlen hkl hk h1 (fun i e j c v h0 h2 h3 h4 => (h i e j c v h0 h2 h3 h4).mono hR) fun j c v h3 h4 => (h2 j c v h3 h4).mono hR hι
  | xs0 E k m cells hi hk0 hkl h2 => exact .xs0 E k m cells (hn _ hi) hk0 hkl fun j c h => (h2 j c h).imp fun v hv => hv.mono hR hι
  | mp f b c l es clock hi hb hf hk => exact .mp f b c l es clock (hn _ hi) hb hf hk
theorem RepB.loc {R : Rd} {ι : Io} {w : World} {n : Nat} {B : Blk} (h : RepB R ι w n B) : ∃ p, ι n = some p := by
  cases h with
  | cs T cells b cap l cur hi => exact ⟨_, hi⟩
  | ds0 E k hi => exact ⟨_, hi⟩
  | ds E k es b cap cur hi => exact ⟨_, hi⟩
  | xs E k m es cells b cap cur hi => exact ⟨_, hi⟩
  | xs0 E k m cells hi => exact ⟨_, hi⟩
  | mp f b c l es clock hi => exact ⟨_, hi⟩
theorem rep_move {R : Rd} {ι : Io} {n n' k : Nat} {v : Value} (hn : ∀ p, ι n = some p → ι n' = some p) (h : RepV R ι (.row n k) v) : RepV R ι (.row n' k) v := by
  cases h with
  | row _ _ b cap len hi => exact .row _ _ _ _ _ (hn _ hi)
  | row0 _ _ a hi => exact .row0 _ _ _ (hn _ hi)
/-- A block under a new name. -/
theorem Rel.anew {X L : Nat → Prop} {w0 : W0} {nt : Nat} {ι : Io} {S : St} {a : Act} {w : World} (H : Rel X L w0 nt ι S a w) {n : Nat} {B : Blk} (hb : look n S.h = some B) :
    ∃ ι', Rel X L w0 nt ι' ⟨S.t, (S.fr, B) :: del n S.h, S.fr + 1⟩ a w ∧ (∀ p, ι' n = some p → ι' S.fr = some p) ∧ n < S.fr := by
  have hB := H.hr.hp n B hb
  obtain ⟨loc, hloc⟩ := hB.loc
  have hfr : n < S.fr := by
    rcases Nat.lt_or_ge n S.fr with h | h
    · exact h
    · rw [H.hr.fresh n h] at hloc; cases hloc
  have := H.change (w' := w) (n0 := some n) (m := S.fr) (fr' := S.fr + 1) (loc := loc) (B := B) ⟨by omega, by omega⟩ (.inl (H.hr.fresh _ (Nat.le_refl _))) (fun b _ _ => rfl)
    (fun b c l h => .inr ⟨n, c, l, rfl, by rw [hb]; rfl, by rw [hloc, h]⟩) rfl rfl rfl (Nat.le_refl _)
    (fun hR hι => hB.move hR hι fun p hp => by rw [hloc] at hp; cases hp; simp [upd])
  refine ⟨_, this.1, fun p hp => ?_, hfr⟩
  have e : upd ι S.fr loc n = ι n := by simp only [upd]; rw [if_neg (by omega)]
  rw [e, hloc] at hp
  cases hp
  simp [upd]
/-- The row in a cell of a block under a new name. -/
theorem AKp.anew {kk : List KI} {S : St} (n p j : Nat) {B : Blk} {T : TypeId} {cells : List AV} {k : Nat} (hb : look n S.h = some B) (hp : look p S.h = some (.cs T cells)) (hj : cells[j]? = some (.row n k)) (hpn : p ≠ n) (hlt : p < S.fr)
    (h : AKp P cx Q (kk, ⟨S.t, (p, .cs T (cells.set j (.row S.fr k))) :: del p ((S.fr, B) :: del n S.h), S.fr + 1⟩)) : AKp P cx Q (kk, S) := by
  intro ι a w H
  obtain ⟨ι', H', hn, _⟩ := H.anew hb
  have hp' : look p ((S.fr, B) :: del n S.h) = some (.cs T cells) := by
    rw [look_cons, if_neg (fun e => by simp at e; omega), look_del, if_neg hpn]
    exact hp
  refine h ι' a w (H'.redesc hp' fun hB => ?_)
  cases hB with
  | cs _ _ b cap l cur hi hbk hl h1 hr =>
    refine .cs _ _ b cap l cur hi hbk (by rw [List.length_set]; exact hl) h1 fun i c v hc hv => ?_
    rw [List.getElem?_set] at hc
    by_cases e : j = i
    · subst e
      have hlt : j < cells.length := (List.getElem?_eq_some_iff.1 hj).1
      rw [if_pos rfl, if_pos hlt] at hc
      obtain rfl := Option.some.inj hc
      exact rep_move hn (hr j _ v hj hv)
    · rw [if_neg e] at hc
      exact hr i c v hc hv
/-- A row told with less: what is nil in its elements is empty. -/
theorem AKp.lessRow {kk : List KI} {S : St} (n : Nat) (es' : List Dat) {E : TypeId} {k : Nat} {es : List Dat} (hb : look n S.h = some (.ds E k es)) (hle : LesD es es')
    (h : AKp P cx Q (kk, ⟨S.t, (n, .ds E k es') :: del n S.h, S.fr⟩)) : AKp P cx Q (kk, S) := by
  intro ι a w H
  refine h ι a w (H.redesc hb fun hB => ?_)
  obtain ⟨hlen, hget⟩ := hle.get
  cases hB with
  | ds0 _ _ hi hk0 =>
    obtain rfl : es' = [] := List.eq_nil_of_length_eq_zero hlen.symm
    exact .ds0 _ _ hi hk0
  | ds _ _ _ b cap cur hi hbk hl hc hm hk0 hk h1 hr =>
    refine .ds _ _ _ b cap cur (by rw [← hlen]; exact hi) hbk hl (by rw [← hlen]; exact hc) hm hk0 (fun i e he => ?_) (by rw [← hlen]; exact h1) fun i e j c v he hc' hv => ?_
    · obtain ⟨x, hx, hxe⟩ := hget i e he
      rw [← hxe.cells.1]
      exact hk i x hx
    · obtain ⟨x, hx, hxe⟩ := hget i e he
      obtain ⟨d, hd, hde⟩ := hxe.cells.2 j c hc'
      exact LeD.rep (hr i x j d v hx hd hv) hde
end
end Go.Ua

