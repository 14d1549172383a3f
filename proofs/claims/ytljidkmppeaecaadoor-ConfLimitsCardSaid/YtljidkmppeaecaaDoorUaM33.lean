/- The library of this claim and its walks, part 33, joined out of smaller texts. No statement stands in it. -/
import Derived.Test.YtljidkmppeaecaaDoorUaM27
import Derived.Test.YtljidkmppeaecaaDoorUaM30
/- Regions that draw their order with calls that are handed blocks and give none. -/
namespace Go.Ua
open Go Go.RowKit
set_option linter.unusedVariables false
set_option linter.unusedSimpArgs false
section
variable {P : Program} [Globs P] {cx : Cx P} {Q : Exit → Act → World → Prop} {τ : Tab}

theorem renH_mem {r : Nat → Nat} {n : Nat} : ∀ {h : List (Nat × Blk)} {B : Blk}, look n (renH r h) = some B → ∃ m B0, (m, B0) ∈ h ∧ r m = n ∧ B = B0.ren r
  | [], B, hl => by simp [renH, look] at hl
  | (m, B0) :: h, B, hl => by
    simp only [renH, look_cons] at hl
    split at hl
    · rename_i e
      obtain rfl := Option.some.inj hl
      exact ⟨m, B0, by simp, e, rfl⟩
    · obtain ⟨m1, B1, h1, h2, h3⟩ := renH_mem hl
      exact ⟨m1, B1, List.mem_cons_of_mem _ h1, h2, h3⟩
theorem ltH_mem {m : Nat} : ∀ {h : List (Nat × Blk)}, ltH m h = true → ∀ n B, (n, B) ∈ h → n < m ∧ B.lt m = true
  | [], _, n, B, hm => by simp at hm
  | p :: r, H, n, B, hm => by
    unfold ltH at H
    split at H
    · rename_i h1 h2
      rcases List.mem_cons.1 hm with e | e
      · subst e
        exact ⟨blt_lt h1, h2⟩
      · exact ltH_mem H n B e
    · cases H
theorem renH_eqOn {r s : Nat → Nat} {m : Nat} (h : ∀ n, n < m → r n = s n) : ∀ {l : List (Nat × Blk)}, ltH m l = true → renH r l = renH s l
  | [], _ => rfl
  | p :: q, H => by
    unfold ltH at H
    split at H
    · rename_i h1 h2
      rw [renH, renH, renH_eqOn h H, h _ (blt_lt h1), bren_eqOn h h2]
    · cases H
theorem look_dropN_out (σ : Nat → Nat) : ∀ (m n : Nat) (h : List (Nat × Blk)), (∀ i, i < m → σ i ≠ n) → look n (dropN σ m h) = look n h
  | 0, _, _, _ => rfl
  | m + 1, n, h, hn => by
    simp only [dropN, look_del]
    rw [if_neg (fun e => hn m (by omega) e.symm), look_dropN_out σ m n h fun i hi => hn i (by omega)]
theorem look_dropN_in (σ : Nat → Nat) (m n : Nat) (h : List (Nat × Blk)) {i : Nat} (hi : i < m) (e : σ i = n) : look n (dropN σ m h) = none := by
  cases hl : look n (dropN σ m h) with
  | none => rfl
  | some B => exact absurd e ((look_dropN σ m n h B hl).2 i hi)

/-- Behind a step that gives no names, the names that were free may be taken as free; blocks may have turned. -/
theorem Rel.purge2 {X L : Nat → Prop} {w0 : W0} {nt : Nat} {ι ι' : Io} {S S' : St} {a a' : Act} {w w'' : World} {f0 : Nat} (h0 : w0.fr ≤ f0) (H : Rel X L w0 nt ι S a w) (H' : Rel X L w0 nt ι' S' a' w'') (hf : S'.fr = S.fr)
    (hh : ∀ n B, look n S'.h = some B → (∃ p, ι n = some p) ∧ n < S.fr ∧ B.lt S.fr = true ∧ ∀ r : Nat → Nat, (∀ n p, ι n = some p → r n = n) → B.ren r = B)
    (ht : ∀ t x, look t S'.t = some x → look t S.t = some x ∨ x.lt 0 = true) (hle : w0.fr ≤ S.fr) : ∃ ι2, Rel X L w0 nt ι2 S' a' w'' ∧ ∀ n, f0 ≤ n → ι n = none → ι2 n = none := by
  let r : Nat → Nat := fun n => if f0 ≤ n ∧ (ι n).isNone = true then S.fr + n + 1 else n
  have hr : ∀ n p, ι n = some p → r n = n := fun n p h => by
    show (if f0 ≤ n ∧ (ι n).isNone = true then S.fr + n + 1 else n) = n
    rw [h, if_neg (by simp)]
  have hle2 : St.le r S' S' := by
    refine ⟨fun t x h => ?_, fun n B hB => ?_, fun n m h1 h2 h3 => ?_⟩
    · rcases ht t x h with g | g
      · have hv := H.tm t x g
        refine ⟨?_, .inl ?_⟩
        · rw [hf]; exact hv.lt_of H.hr.fresh
        · rw [RepV.fix hr _ _ hv]; exact h
      · exact ⟨lt_mono0 g, .inl (by rw [ren_lt0 _ _ g]; exact h)⟩
    · obtain ⟨⟨p, g0⟩, g1, g2, g3⟩ := hh n B hB
      exact ⟨by rw [hf]; exact g1, by rw [hf]; exact g2, by rw [hr n p g0, g3 r hr]; exact hB⟩
    · obtain ⟨B1, hB1⟩ := Option.isSome_iff_exists.1 h1
      obtain ⟨B2, hB2⟩ := Option.isSome_iff_exists.1 h2
      obtain ⟨⟨p, g0⟩, _⟩ := hh n B1 hB1
      obtain ⟨⟨p', g0'⟩, _⟩ := hh m B2 hB2
      rw [hr n p g0, hr m p' g0'] at h3
      exact h3
  have hold : ∀ n, n < w0.fr → n < S'.fr ∧ r n = n := fun n hn => by
    refine ⟨by omega, ?_⟩
    show (if f0 ≤ n ∧ (ι n).isNone = true then S.fr + n + 1 else n) = n
    rw [if_neg (by omega)]
  obtain ⟨h1, h2, h3⟩ := hle2
  obtain ⟨g1, g2, g3⟩ := H'.hr.keep hold h2 h3
  refine ⟨_, ⟨g1, fun t x hx => ?_, H'.sz, H'.df⟩, fun n hn hι => ?_⟩
  · obtain ⟨h4, h5⟩ := h1 t x hx
    rcases h5 with h5 | rfl
    · exact ((H'.tm t _ h5).ren_inv g3 x h4 rfl).mono g2 (fun _ _ h => h)
    · exact .any _
  · show (if n < S'.fr then ι' (r n) else none) = none
    split
    · have e : r n = S.fr + n + 1 := by
        show (if f0 ≤ n ∧ (ι n).isNone = true then S.fr + n + 1 else n) = S.fr + n + 1
        rw [hι, if_pos ⟨hn, rfl⟩]
      rw [e]
      exact H'.hr.fresh _ (by rw [hf]; omega)
    · rfl

def callM0x (φ : Nat → List AV → List (Nat × Blk) → Option (Bool × AV × List (Nat × Blk) × Nat)) (S : St) (args : List AV) (ns : List Nat) : Option (Bool × AV × List Nat × List (Nat × Blk)) :=
  match insN ns args, nodupB ns, mkH ns S.h ns 0 with
  | true, true, some h => (match φ ns.length (rens (fun n => posN n ns) args) h with
    | some (b, x, h', fr') => (match Nat.beq fr' ns.length, ltH ns.length h', x.lt 0 with
      | true, true, true => some (b, x, ns, h')
      | _, _, _ => none)
    | none => none)
  | _, _, _ => none
def callM0 (G : Tbl) (S : St) (op : Op) : Option (Bool × AV × List Nat × List (Nat × Blk)) := match op with
  | .call c => (match c.callee with
    | .value fo => (match fargs (evl S fo) with
      | some (g, fi, ca) => (match look g G with
        | some (.m φ) => callM0x φ S (app3 fi (evls S c.args.toList) ca) (clo S.h 4 (nmss [] (app3 fi (evls S c.args.toList) ca)))
        | _ => none)
      | none => none)
    | _ => none)
  | _ => none
theorem callM0_some {G : Tbl} (hG : TblOK P G) {S : St} {op : Op} {b : Bool} {x : AV} {ns : List Nat} {h' : List (Nat × Blk)} (h : callM0 G S op = some (b, x, ns, h')) (hb : b = true) :
    ∃ c fo g fi ca args hh, op = .call c ∧ c.callee = .value fo ∧ fargs (evl S fo) = some (g, fi, ca) ∧ app3 fi (evls S c.args.toList) ca = rens (nthN ns) args ∧ lts ns.length args = true ∧
      (∀ n, n < ns.length → (look n hh).isSome = true) ∧ (∀ n B, look n hh = some B → n < ns.length ∧ B.lt ns.length = true ∧ look (nthN ns n) S.h = some (B.ren (nthN ns))) ∧
      (∀ n m, n < ns.length → m < ns.length → nthN ns n = nthN ns m → n = m) ∧ ASpec P g args hh ns.length (fun y h1 fr1 => y = x ∧ h1 = h' ∧ fr1 = ns.length) ∧ ltH ns.length h' = true ∧ x.lt 0 = true := by
  unfold callM0 at h
  split at h
  · rename_i c
    split at h
    · rename_i fo hc
      split at h
      · rename_i g fi ca hf
        split at h
        · rename_i φ hφ
          generalize clo S.h 4 (nmss [] (app3 fi (evls S c.args.toList) ca)) = ns1 at h
          unfold callM0x at h
          split at h
          · rename_i hh h1 h2 h3
            split at h
            · rename_i b' x' h1' fr' hx
              split at h
              · rename_i e1 e2 e3
                simp only [Option.some.injEq, Prod.mk.injEq] at h
                obtain ⟨rfl, rfl, rfl, rfl⟩ := h
                obtain rfl := Nat.eq_of_beq_eq_true e1
                obtain ⟨r1, r2⟩ := rens_back ns1 _ h1
                obtain ⟨m1, m2⟩ := mkH_ok h3
                refine ⟨c, fo, g, fi, ca, _, hh, rfl, hc, hf, r1.symm, r2, fun n hn => m1 n (by omega) (by omega), fun n B hB => ?_, nthN_inj h2, hG.get hφ _ _ _ _ _ _ _ hx hb, e2, e3⟩
                obtain ⟨k1, k2, B0, k3, k4, rfl⟩ := m2 n B hB
                obtain ⟨b1, b2⟩ := bren_back k4
                exact ⟨by omega, b2, by rw [b1]; simpa using k3⟩
              · cases h
            · cases h
          · cases h
        · cases h
      · cases h
    · cases h
  · cases h

theorem DE.callM0 {G : Tbl} (hG : TblOK P G) {all r : List Oper} {id : Nat} {k : List KI} {S0 S : St} {o : Oper} {b : Bool} {x : AV} {ns : List Nat} {h' : List (Nat × Blk)} {fps : List Fp} (hw0 : cx.w0.fr ≤ S0.fr) (hle : S0.fr ≤ S.fr)
    (hc : callM0 G S o.op = some (b, x, ns, h')) (hb : b = true) (hg : guardB all S o = some true) (hd : ∀ d, o.dst = some d → d < cx.nt)
    (next : DE P cx Q all id k S0 (fps ++ [([], ns)]) r (St.put ⟨S.t, appH (renH (nthN ns) h') (dropN (nthN ns) ns.length S.h), S.fr⟩ o.dst x)) : DE P cx Q all id k S0 fps (o :: r) S := by
  obtain ⟨c, fo, g, fi, ca, args, hh, ho, hcal, hf, ha, hl, hall, hhh, hinj, sp, hlt, hx⟩ := callM0_some hG hc hb
  have inns : ∀ n, n ∈ ns → ∃ i, i < ns.length ∧ nthN ns i = n := fun n hn => by
    obtain ⟨i, hi, e⟩ := List.getElem_of_mem hn
    refine ⟨i, hi, ?_⟩
    have : ∀ (l : List Nat) (i : Nat) (h : i < l.length), nthN l i = l[i] := by
      intro l
      induction l with
      | nil => intro i h; simp at h
      | cons a l ih =>
        intro i h
        cases i with
        | zero => rfl
        | succ i => simpa [nthN] using ih i (by simpa using h)
    rw [this ns i hi, e]
  have wr : ∀ (h : List (Nat × Blk)) q, q ∈ ns → look q (appH (renH (nthN ns) h') (dropN (nthN ns) ns.length h)) = look q (renH (nthN ns) h') := fun h q hq => by
    rw [look_app]
    obtain ⟨i, hi, e⟩ := inns q hq
    rw [look_dropN_in (nthN ns) ns.length q h hi e]
    cases look q (renH (nthN ns) h') <;> rfl
  have rd : ∀ (h : List (Nat × Blk)) q, q ∉ ns → look q (appH (renH (nthN ns) h') (dropN (nthN ns) ns.length h)) = look q h := fun h q hq => by
    rw [look_app]
    have h1 : look q (renH (nthN ns) h') = none := by
      cases hl2 : look q (renH (nthN ns) h') with
      | none => rfl
      | some B =>
        obtain ⟨m, B0, g1, g2, _⟩ := renH_mem hl2
        exact absurd (by rw [← g2]; exact nthN_mem (ltH_mem hlt m B0 g1).1) hq
    rw [h1]
    exact look_dropN_out _ _ _ _ fun i hi e => hq (by rw [← e]; exact nthN_mem hi)
  refine DE.snoc x _ ([], ns) (fun j hj => ⟨by cases o.dst <;> rfl, fun q hq => by rw [put_h]; exact rd _ _ hq, by rw [put_fr]; exact Nat.le_refl _, ?_⟩) next
  intro Q' K ι S1 a w H hfr h1 h2 h3 hK
  rw [put_fr] at hfr h3
  simp only at hfr h3
  unfold wpOp
  rw [show all.toArray[j]? = some o by simpa using hj]
  simp only
  rw [guardB_spec H (by rw [guardB_congr h1]; exact hg), if_pos rfl]
  have ev := evl_looks h1
  rw [ho] at ev
  have hns1 : ∀ n, n < ns.length → look (nthN ns n) S1.h = look (nthN ns n) S.h := fun n hn => h2 _ (.inr (nthN_mem hn))
  refine .inl (call_wp H sp (nthN ns) ho hcal hd (fi := fi) (ca := ca) ?_ ?_ hl hall (fun n B hB => ?_) hinj fun x1 h1' fr1 hQ ι' a' w' H' => ?_)
  · rw [ev fo (by simp [Op.operands, Call.operands, hcal])]
    exact hf
  · rw [evls_congr (S' := S) fun x hx => ev x (by simp [Op.operands, Call.operands, Array.mem_toList_iff.1 hx]), ha]
  · obtain ⟨k1, k2, k3⟩ := hhh n B hB
    exact ⟨k1, k2, by rw [hns1 n k1]; exact k3⟩
  · obtain ⟨rfl, rfl, rfl⟩ := hQ
    have e1 : St.after S1 (nthN ns) ns.length h1' ns.length = ⟨S1.t, appH (renH (nthN ns) h1') (dropN (nthN ns) ns.length S1.h), S1.fr⟩ := by
      unfold St.after
      rw [renH_eqOn (s := nthN ns) (m := ns.length) (fun n hn => by
        unfold shift
        have : Nat.blt n ns.length = true := by simp only [Nat.blt, Nat.ble_eq]; exact hn
        rw [this]) hlt, Nat.sub_self]
      rfl
    rw [e1, ren_lt0 _ _ hx] at H'
    have known : ∀ i, i < ns.length → ∃ p, ι (nthN ns i) = some p := fun i hi => by
      obtain ⟨B, hB⟩ := Option.isSome_iff_exists.1 (hall i hi)
      obtain ⟨k1, k2, k3⟩ := hhh i B hB
      rw [← hns1 i hi] at k3
      exact (H.hr.hp _ _ k3).loc
    have hh2 : ∀ n B, look n (St.put ⟨S1.t, appH (renH (nthN ns) h1') (dropN (nthN ns) ns.length S1.h), S1.fr⟩ o.dst x1).h = some B → (∃ p, ι n = some p) ∧ n < S1.fr ∧ B.lt S1.fr = true ∧ ∀ r : Nat → Nat, (∀ n p, ι n = some p → r n = n) → B.ren r = B := by
      intro n B hB
      rw [put_h] at hB
      by_cases hq : n ∈ ns
      · rw [wr _ _ hq] at hB
        obtain ⟨m, B0, q1, q2, q3⟩ := renH_mem hB
        obtain ⟨q4, q5⟩ := ltH_mem hlt m B0 q1
        have kn : ∀ i, i < ns.length → nthN ns i < S1.fr := fun i hi => by
          obtain ⟨p, hp⟩ := known i hi
          rcases Nat.lt_or_ge (nthN ns i) S1.fr with h | h
          · exact h
          · rw [H.hr.fresh _ h] at hp; cases hp
        refine ⟨by rw [← q2]; exact known m q4, by rw [← q2]; exact kn m q4, by rw [q3]; exact bren_ltN (m := ns.length) kn q5, fun r hr => ?_⟩
        rw [q3, bren_comp]
        exact bren_eqOn (m := ns.length) (fun i hi => by obtain ⟨p, hp⟩ := known i hi; exact hr _ p hp) q5
      · rw [rd _ _ hq] at hB
        have hb := H.hr.hp n B hB
        obtain ⟨g1, g2⟩ := hb.lt_of H.hr.fresh
        exact ⟨hb.loc, g1, g2, fun r hr => (RepB.fix hr hb).2⟩
    have ht2 : ∀ t y, look t (St.put ⟨S1.t, appH (renH (nthN ns) h1') (dropN (nthN ns) ns.length S1.h), S1.fr⟩ o.dst x1).t = some y → look t S1.t = some y ∨ y.lt 0 = true := by
      intro t y hy
      cases hdst : o.dst with
      | none => rw [hdst] at hy; exact .inl hy
      | some d =>
        rw [hdst] at hy
        simp only [St.put, look_cons, look_del] at hy
        split at hy
        · obtain rfl := Option.some.inj hy
          exact .inr hx
        · split at hy
          · cases hy
          · exact .inl hy
    obtain ⟨ι2, g1, g2⟩ := Rel.purge2 (f0 := S0.fr) hw0 H H' (put_fr _ _ _) hh2 ht2 (by omega)
    refine hK ι2 a' w' (St.put ⟨S1.t, appH (renH (nthN ns) h1') (dropN (nthN ns) ns.length S1.h), S1.fr⟩ o.dst x1) ?_ (fun q hq => ?_) (fun q hq => ?_) (put_fr _ _ _) (fun n hn h _ => g2 n hn h) g1
    · cases o.dst <;> rfl
    · rw [put_h, put_h]
      exact (wr _ _ hq).trans (wr _ _ hq).symm
    · rw [put_h]
      exact rd _ _ hq
/-- What looks at no block. -/
def noRd : Op → Bool
  | .move _ => true
  | .assign _ => true
  | .nilCheck _ => true
  | .fieldAddr _ _ _ => true
  | _ => false
theorem noRd_frame {A : Ar} {τ : Tab} {S S' : St} (op : Op) (hn : noRd op = true) (h : ∀ x, x ∈ op.operands.toList → evl S x = evl S' x) : pureOp A τ S op = pureOp A τ S' op := by
  cases op <;> simp only [Op.operands] at h <;> first | (cases hn; done) | skip
  case move x => simp only [pureOp]; rw [h x (by simp)]
  case assign x => simp only [pureOp]; rw [h x (by simp)]
  case nilCheck x => simp only [pureOp]; rw [h x (by simp)]
  case fieldAddr t x f => simp only [pureOp]; rw [h x (by simp)]
theorem DE.pure0 (hτ : TabOK P τ) {all r : List Oper} {id : Nat} {k : List KI} {S0 S : St} {o : Oper} {z : AV} {fps : List Fp} (hn : noRd o.op = true) (hz : pureOp Ar.real τ S o.op = some z) (hg : guardB all S o = some true)
    (hd : ∀ d, o.dst = some d → d < cx.nt) (next : DE P cx Q all id k S0 (fps ++ [([], [])]) r (S.put o.dst z)) : DE P cx Q all id k S0 fps (o :: r) S := by
  refine DE.snoc z _ ([], []) (fun j hj => ⟨rfl, fun n _ => by rw [put_h], by rw [put_fr]; exact Nat.le_refl _, ?_⟩) next
  intro Q' K ι S1 a w H hf h1 h2 h3 hK
  unfold wpOp
  rw [show all.toArray[j]? = some o by simpa using hj]
  simp only
  rw [guardB_spec H (by rw [guardB_congr h1]; exact hg), if_pos rfl]
  have ev := evl_looks h1
  have hz1 : pureOp Ar.real τ S1 o.op = some z := by
    rw [← hz]
    exact noRd_frame o.op hn fun x hx => ev x hx
  obtain ⟨v, hv, hr⟩ := pureOp_run hτ H hz1
  refine .inl ?_
  unfold Oper.wp
  rw [hv]
  exact hK ι _ w (S1.put o.dst z) rfl (fun n hn => by simp at hn) (fun n _ => by rw [put_h]) (put_fr _ _ _) (fun n _ h _ => h) (H.put hd hr)
/-- A region that draws its order: what is pure, and calls that are handed blocks. -/
def runD3 (F : Fam) (τ : Tab) (nt : Nat) (G : Tbl) (all : List Oper) (st : Tree) (K : List Oper → St → Tree) : Nat → List Fp → List Oper → St → Tree
  | 0, _, _, _ => st
  | f + 1, fps, [], S => (match chkE fps all with
    | true => K [] S
    | false => st)
  | f + 1, fps, o :: r, S => (match chkTail all fps.length (o :: r) with
    | true => (match chkE fps all with
      | true => K (o :: r) S
      | false => st)
    | false => (match (match o.dst with
          | some d => Nat.blt d nt
          | none => true), guardB all S o with
      | true, some true => (match callM0 G S o.op with
        | some (b, x, ns, h') => .need b (runD3 F τ nt G all st K f (fps ++ [([], ns)]) r (St.put ⟨S.t, appH (renH (nthN ns) h') (dropN (nthN ns) ns.length S.h), S.fr⟩ o.dst x))
        | none => (match pureOp (Ar.of F) τ S o.op with
          | some z => (match noRd o.op with
            | true => runD3 F τ nt G all st K f (fps ++ [([], [])]) r (S.put o.dst z)
            | false => runD3 F τ nt G all st K f (fps ++ [(topNs S o.op.operands.toList, [])]) r (S.put o.dst z))
          | none => st))
      | _, _ => st))
theorem runD3_ok (hτ : TabOK P τ) (hm : P.follows .mixedOrders = true) {G : Tbl} (hG : TblOK P G) {all : List Oper} {id : Nat} {k : List KI} {S0 : St} (hw0 : cx.w0.fr ≤ S0.fr) {st : Tree} {K : List Oper → St → Tree}
    (hst : AKm P cx Q st → AK P cx Q (.code (.region id all.toArray true) :: k) S0) (hK : ∀ rest S, cx.w0.fr ≤ S.fr → AKm P cx Q (K rest S) → AK P cx Q (.ops all rest :: k) S) :
    ∀ (f : Nat) (fps : List Fp) (r : List Oper) (S : St), S0.fr ≤ S.fr → AKm P cx Q (runD3 Fam.real τ cx.nt G all st K f fps r S) → DE P cx Q all id k S0 fps r S
  | 0, fps, r, S, h0, h => fun _ _ _ _ _ _ => hst (by unfold runD3 at h; exact h)
  | f + 1, fps, [], S, h0, h => by
    unfold runD3 at h
    split at h
    · rename_i hc
      exact DE.fin hm hc (hK _ _ (Nat.le_trans hw0 h0) h)
    · exact fun _ _ _ _ _ _ => hst h
  | f + 1, fps, o :: r, S, h0, h => by
    have ih := runD3_ok hτ hm hG hw0 hst hK f
    unfold runD3 at h
    split at h
    · split at h
      · rename_i hc
        exact DE.fin hm hc (hK _ _ (Nat.le_trans hw0 h0) h)
      · exact fun _ _ _ _ _ _ => hst h
    · split at h
      · rename_i hd hg
        split at h
        · rename_i b x ns h' hc
          exact DE.callM0 hG hw0 h0 hc h.1 hg (dst_lt hd) (ih _ _ _ (by rw [put_fr]; exact h0) (h.2 h.1))
        · split at h
          · rename_i z hz
            split at h
            · rename_i hn
              exact DE.pure0 hτ hn hz hg (dst_lt hd) (ih _ _ _ (by rw [put_fr]; exact h0) h)
            · exact DE.pure hτ hz hg (dst_lt hd) (ih _ _ _ (by rw [put_fr]; exact h0) h)
          · exact fun _ _ _ _ _ _ => hst h
      · exact fun _ _ _ _ _ _ => hst h
theorem AKp.runD3 {F : Fam} (hF : F = Fam.real) (hτ : TabOK P τ) (hm : P.follows .mixedOrders = true) {n : Nat} (hn : cx.nt = n) (fz : Bool) (G : Tbl) (hG : TblOK P G) {id : Nat} {ops : Array Oper} {k : List KI} {S : St} (h0 : cx.w0.fr ≤ S.fr)
    (h : AKt P cx Q (Go.Ua.runD3 F τ n G ops.toList (.leaf (.code (.region id ops true) :: k) S) (fun rest S => Ua.runT F τ n fz G [] 100000 [] (.ops ops.toList rest :: k) S) 10000 [] ops.toList S)) : AKp P cx Q (.code (.region id ops true) :: k, S) := by
  subst hF
  subst hn
  have := runD3_ok (P := P) (cx := cx) (Q := Q) (id := id) (k := k) (S0 := S) (all := ops.toList) (st := .leaf (.code (.region id ops true) :: k) S) hτ hm hG h0 (fun h => h) (fun rest S h0 h => AK.stepT hτ hm hG fz [] _ [] _ S h0 h) _ _ _ _ (Nat.le_refl _) h.m
  exact DE.start this
end
end Go.Ua

