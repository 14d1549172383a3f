/- The library of this claim and its walks, part 18, joined out of smaller texts. No statement stands in it. -/
import Derived.Test.YtpmpajodihpkaaaGreatDoorUaM17
set_option linter.unusedSectionVars false
set_option linter.unusedSimpArgs false
set_option linter.unusedVariables false
namespace Go.Ua
open Go Go.Proofs
mutual
theorem RepV.fix {R : Rd} {ι : Io} {r : Nat → Nat} (hr : ∀ n p, ι n = some p → r n = n) : ∀ (x : AV) (v : Value), RepV R ι x v → x.ren r = x
 | .d x, v, h => rfl
 | .agg cs, v, h => by
   cases h with
   | agg _ vs hl h1 h =>
     rw [AV.ren, RepV.fixs hr cs vs hl h]
 | .tup cs, v, h => by
   cases h with
   | tup _ vs hl h => rw [AV.ren, RepV.fixs hr cs vs hl h]
 | .ptr n i o k, v, h => by
   cases h with
   | ptr _ _ _ _ b c l hi => rw [AV.ren, hr _ _ hi]
 | .opt n, v, h => by
   cases h with
   | opt _ b c l _ hi => rw [AV.ren, hr _ _ hi]
 | .mp n, v, h => by
   cases h with
   | mp _ b c l hi => rw [AV.ren, hr _ _ hi]
 | .row n k, v, h => by
   cases h with
   | row _ _ b c l hi => rw [AV.ren, hr _ _ hi]
   | row0 _ _ a hi => rw [AV.ren, hr _ _ hi]
 | .own n i l k c, v, h => by
   cases h with
   | own _ _ _ _ b cap m l' _ hi => rw [AV.ren, hr _ _ hi]
 | .iface t x, v, h => by
   cases h with
   | iface _ _ u h => rw [AV.ren, RepV.fix hr x u h]
 | .fn f xs ys, v, h => by
   cases h with
   | fn _ _ _ vs ws hl hl2 h h2 => rw [AV.ren, RepV.fixs hr xs vs hl h, RepV.fixs hr ys ws hl2 h2]
 | .nul, v, h => rfl
 | .any, v, h => rfl
theorem RepV.fixs {R : Rd} {ι : Io} {r : Nat → Nat} (hr : ∀ n p, ι n = some p → r n = n) : ∀ (cs : List AV) (vs : List Value), cs.length = vs.length → (∀ (i : Nat) (c : AV) (v : Value), cs[i]? = some c → vs[i]? = some v → RepV R ι c v) → rens r cs = cs
 | [], vs, hl, h => rfl
 | c :: cs, [], hl, h => by simp at hl
 | c :: cs, v :: vs, hl, h => by
   rw [rens, RepV.fix hr c v (h 0 c v rfl rfl), RepV.fixs hr cs vs (by simpa using hl) fun i c v h1 h2 => h (i + 1) c v h1 h2]
end
theorem RepB.fix {R : Rd} {ι : Io} {w : World} {n : Nat} {B : Blk} {r : Nat → Nat} (hr : ∀ n p, ι n = some p → r n = n) (h : RepB R ι w n B) : r n = n ∧ B.ren r = B := by
 cases h with
 | cs T cells b cap l cur hi hb hl h1 h => exact ⟨hr _ _ hi, by rw [Blk.ren, RepV.fixs hr cells cur hl.symm h]⟩
 | ds0 E k hi => exact ⟨hr _ _ hi, rfl⟩
 | mp f b c l es clock hi => exact ⟨hr _ _ hi, rfl⟩
 | ds E k es b cap cur hi => exact ⟨hr _ _ hi, rfl⟩
 | xs0 E k m cells hi hk0 hkl h2 =>
   refine ⟨hr _ _ hi, ?_⟩
   rw [Blk.ren]
   congr 1
   refine List.ext_getElem? fun j => ?_
   rw [rens_get]
   cases hc : cells[j]? with
   | none => rfl
   | some c =>
     obtain ⟨v, hv⟩ := h2 j c hc
     rw [Option.map_some, RepV.fix hr c v hv]
 | xs E k m es cells b cap cur hi hb hl hc hm hk0 hlen hkl hk h1 h h2 =>
   refine ⟨hr _ _ hi, ?_⟩
   have hle : m * k + k ≤ cur.length := by
     have : (m + 1) * k ≤ cap * k := Nat.mul_le_mul_right k (by omega)
     rw [Nat.add_mul, Nat.one_mul] at this
     omega
   rw [Blk.ren, RepV.fixs hr cells ((cur.drop (m * k)).take k) (by rw [List.length_take, List.length_drop]; omega) fun j c v hc hv => h2 j c v hc (by
     rw [List.getElem?_take] at hv
     split at hv
     · rwa [List.getElem?_drop] at hv
     · cases hv)]
section
variable {X L : Nat → Prop} {w0 : W0} {w w' : World} {nt : Nat} {ι : Io} {S : St} {a : Act} {P : Program} {τ : Tab}
theorem HRel.congr {h h' : List (Nat × Blk)} {fr : Nat} (hl : ∀ n, look n h' = look n h) (H : HRel X L w0 ι h fr w) : HRel X L w0 ι h' fr w ∧ rdOf L ι h' w = rdOf L ι h w := by
 have hb : bad L ι h' = bad L ι h := by
   funext b
   unfold bad
   simp only [hl]
 have hr : rdOf L ι h' w = rdOf L ι h w := by
   funext b o v
   unfold rdOf
   rw [hb]
 refine ⟨⟨fun n B hB => ?_, fun n m b c l c' l' h1 h2 => H.inj n m b c l c' l' (by rw [← hl]; exact h1) (by rw [← hl]; exact h2), fun n b c l h1 => H.out n b c l (by rw [← hl]; exact h1), H.fresh, H.lb, H.kp, H.old⟩, hr⟩
 rw [hr]
 exact H.hp n B (by rw [← hl]; exact hB)
theorem Rel.congr {S' : St} (ht : ∀ t, look t S'.t = look t S.t) (hh : ∀ n, look n S'.h = look n S.h) (hf : S'.fr = S.fr) (H : Rel X L w0 nt ι S a w) : Rel X L w0 nt ι S' a w := by
 obtain ⟨g1, g2⟩ := H.hr.congr (h' := S'.h) hh
 refine ⟨by rw [hf]; exact g1, fun t x h => ?_, H.sz, H.df⟩
 rw [g2]
 exact H.tm t x (by rw [← ht]; exact h)
theorem Rel.raise {fr' : Nat} (h : S.fr ≤ fr') (H : Rel X L w0 nt ι S a w) : Rel X L w0 nt ι ⟨S.t, S.h, fr'⟩ a w :=
 ⟨⟨H.hr.hp, H.hr.inj, H.hr.out, fun n hn => H.hr.fresh n (Nat.le_trans h hn), H.hr.lb, H.hr.kp, H.hr.old⟩, H.tm, H.sz, H.df⟩
theorem Rel.purge {ι' : Io} {S' : St} {a' : Act} {w'' : World} {f0 : Nat} (h0 : w0.fr ≤ f0) (H : Rel X L w0 nt ι S a w) (H' : Rel X L w0 nt ι' S' a' w'') (hf : S'.fr = S.fr) (hh : ∀ n, look n S'.h = look n S.h)
   (ht : ∀ t x, look t S'.t = some x → look t S.t = some x ∨ x.lt 0 = true) (hle : w0.fr ≤ S.fr) : ∃ ι2, Rel X L w0 nt ι2 S' a' w'' ∧ ∀ n, f0 ≤ n → ι n = none → ι2 n = none := by
 let r : Nat → Nat := fun n => if f0 ≤ n ∧ (ι n).isNone = true then S.fr + n + 1 else n
 have hr : ∀ n p, ι n = some p → r n = n := fun n p h => by
   show (if f0 ≤ n ∧ (ι n).isNone = true then S.fr + n + 1 else n) = n
   rw [h, if_neg (by simp)]
 have hle2 : St.le r S' S' := by
   refine ⟨fun t x h => ?_, fun n B hB => ?_, fun n m h1 h2 h3 => ?_⟩
   · rcases ht t x h with g | g
     · have hv := H.tm t x g
       refine ⟨?_, .inl ?_⟩
       · rw [hf]; exact hv.lt_of H.hr.fresh
       · rw [RepV.fix hr _ _ hv]; exact h
     · exact ⟨lt_mono0 g, .inl (by rw [ren_lt0 _ _ g]; exact h)⟩
   · rw [hh] at hB
     have hb := H.hr.hp n B hB
     obtain ⟨g1, g2⟩ := hb.lt_of H.hr.fresh
     obtain ⟨g3, g4⟩ := RepB.fix hr hb
     exact ⟨by rw [hf]; exact g1, by rw [hf]; exact g2, by rw [g3, g4, hh]; exact hB⟩
   · rw [hh] at h1 h2
     obtain ⟨B1, hB1⟩ := Option.isSome_iff_exists.1 h1
     obtain ⟨B2, hB2⟩ := Option.isSome_iff_exists.1 h2
     rw [(RepB.fix hr (H.hr.hp _ _ hB1)).1, (RepB.fix hr (H.hr.hp _ _ hB2)).1] at h3
     exact h3
 have hold : ∀ n, n < w0.fr → n < S'.fr ∧ r n = n := fun n hn => by
   refine ⟨by omega, ?_⟩
   show (if f0 ≤ n ∧ (ι n).isNone = true then S.fr + n + 1 else n) = n
   rw [if_neg (by omega)]
 obtain ⟨h1, h2, h3⟩ := hle2
 obtain ⟨g1, g2, g3⟩ := H'.hr.keep hold h2 h3
 refine ⟨_, ⟨g1, fun t x hx => ?_, H'.sz, H'.df⟩, fun n hn hι => ?_⟩
 · obtain ⟨h4, h5⟩ := h1 t x hx
   rcases h5 with h5 | rfl
   · exact ((H'.tm t _ h5).ren_inv g3 x h4 rfl).mono g2 (fun _ _ h => h)
   · exact .any _
 · show (if n < S'.fr then ι' (r n) else none) = none
   split
   · have e : r n = S.fr + n + 1 := by
       show (if f0 ≤ n ∧ (ι n).isNone = true then S.fr + n + 1 else n) = S.fr + n + 1
       rw [hι, if_pos ⟨hn, rfl⟩]
     rw [e]
     exact H'.hr.fresh _ (by rw [hf]; omega)
   · rfl
theorem Rel.allocAt (H : Rel X L w0 nt ι S a w) {N : Nat} (hN : ι N = none) (hlt : N < S.fr) {B : Blk} {o : Obj} {cap len : Nat}
   (hB : ∀ (R' : Rd) (ι' : Io) (w' : World), (∀ b o v, rdOf L ι S.h w b o v → R' b o v) → (∀ n p, ι n = some p → ι' n = some p) →
     ι' N = some (.blk w.heap.size cap len) → w'.heap[w.heap.size]? = some o → RepB R' ι' w' N B) :
   Rel X L w0 nt (upd ι N (.blk w.heap.size cap len)) ⟨S.t, (N, B) :: S.h, S.fr⟩ a (w.alloc o) := by
 have := H.change (w' := w.alloc o) (n0 := none) (m := N) (fr' := S.fr) (loc := .blk w.heap.size cap len) (B := B) ⟨by omega, by omega⟩ (.inl hN)
   (fun b hb _ => heap_alloc_old w o b hb) (fun b c l h => by cases h; exact .inl (Nat.le_refl _)) rfl rfl rfl (by simp)
   (fun hR hι => hB _ _ _ hR hι (by simp [upd]) (heap_alloc_new w o))
 exact this.1
theorem alloc_runAt (hτ : TabOK P τ) (H : Rel X L w0 nt ι S a w) {t : TypeId} {y : Ty} {N : Nat} (hN : ι N = none) (hlt : N < S.fr) (hy : look t τ = some y) (hz : okZero y = true) :
   ∃ v w' ι', (Instr.alloc t true (.tuple #[])).run P w = .ok v w' ∧ Rel X L w0 nt ι' ⟨S.t, (N, .cs t (zcells y)) :: S.h, S.fr⟩ a w' ∧ RepV (rdOf L ι' ((N, .cs t (zcells y)) :: S.h) w') ι' (.ptr N 0 0 y.size) v ∧ ∀ n, n ≠ N → ι' n = ι n := by
 obtain ⟨d, i, hu, hi, hs, hb, hzv, hzl, hk, hzo, _⟩ := hτ.get hy
 have h1 := H.allocAt hN hlt (B := .cs t (zcells y)) (o := .cells (y.zero.map Sc.val).toArray t (0, 0)) (cap := 1) (len := 0)
   (fun R' ι' w' hR hι hi hb => .cs t _ _ _ _ (y.zero.map Sc.val) hi hb (by simp [zcells]) (zero_one y) (fun j c v hc hv => zero_rep y hzo j c v hc hv))
 refine ⟨.pointer (some ⟨w.heap.size, 0, none⟩), _, _, ?_, h1, ?_, fun n hn => by simp [upd, hn]⟩
 · simp only [Instr.alloc, Sem.run_bind, zeroValue, typeInfo, run_program, hi, Sem.run_pure, Result.andThen_ok, hzv, newVar, newRow, newObj, zval_cells y (okZero_or hz)]
   rfl
 · have := RepV.ptr (R := rdOf L (upd ι N (.blk w.heap.size 1 0)) ((N, Blk.cs t (zcells y)) :: S.h) (w.alloc (.cells (y.zero.map Sc.val).toArray t (0, 0)))) (ι := upd ι N (.blk w.heap.size 1 0)) N 0 0 y.size w.heap.size 1 0 (by simp [upd])
   simpa using this
end
def topN : AV → List Nat
 | .ptr n _ _ _ => [n]
 | .opt n => [n]
 | .mp n => [n]
 | .row n _ => [n]
 | .own n _ _ _ _ => [n]
 | _ => []
def topNs (S : St) : List Operand → List Nat
 | [] => []
 | x :: r => topN (evl S x) ++ topNs S r
theorem topNs_mem {S : St} {x : Operand} {n : Nat} : ∀ {l : List Operand}, x ∈ l → n ∈ topN (evl S x) → n ∈ topNs S l
 | [], h, _ => by simp at h
 | y :: l, h, hn => by
   rw [topNs, List.mem_append]
   rcases List.mem_cons.1 h with rfl | h
   · exact .inl hn
   · exact .inr (topNs_mem h hn)
theorem cellsAt_frame {S S' : St} {p : AV} (h : ∀ n, n ∈ topN p → look n S.h = look n S'.h) : cellsAt S p = cellsAt S' p := by
 unfold cellsAt
 cases p with
 | ptr n i o k => simp only [h n (by simp [topN])]
 | d x => cases x <;> rfl
 | _ => rfl
theorem rowOf_frame {S S' : St} {n : Nat} (h : look n S.h = look n S'.h) : rowOf S n = rowOf S' n := by
 unfold rowOf
 rw [h]
theorem mapOf_frame {S S' : St} {n : Nat} (h : look n S.h = look n S'.h) : mapOf S n = mapOf S' n := by
 unfold mapOf
 rw [h]
theorem lookupAV_congr {A : Ar} {τ : Tab} {S S' : St} {t : TypeId} {x i : AV} {ok : Bool} (h : ∀ n, x = .mp n → mapOf S n = mapOf S' n) : lookupAV A τ S t x i ok = lookupAV A τ S' t x i ok := by
 unfold lookupAV
 split
 · rename_i n s
   rw [h n rfl]
 · rfl
theorem pureOp_frame {A : Ar} {τ : Tab} {S S' : St} (op : Op) (h : ∀ x, x ∈ op.operands.toList → evl S x = evl S' x) (hh : ∀ n, n ∈ topNs S op.operands.toList → look n S.h = look n S'.h) : pureOp A τ S op = pureOp A τ S' op := by
 have hn : ∀ {x : Operand} {n : Nat}, x ∈ op.operands.toList → n ∈ topN (evl S x) → look n S.h = look n S'.h := fun hx hn => hh _ (topNs_mem hx hn)
 cases op <;> simp only [Op.operands] at h hn <;> simp only [pureOp]
 case move x => rw [h x (by simp)]
 case assign x => rw [h x (by simp)]
 case pick c x y => rw [h c (by simp), h x (by simp), h y (by simp)]
 case load t p =>
   have e : cellsAt S (evl S p) = cellsAt S' (evl S p) := cellsAt_frame fun n g => hn (x := p) (by simp) g
   rw [← h p (by simp)]
   unfold loadAV
   rw [e]
 case nilCheck x => rw [h x (by simp)]
 case binOp op t x y u => rw [h x (by simp), h y (by simp)]
 case unOp op t x => rw [h x (by simp)]
 case convert s d x => rw [h x (by simp)]
 case makeInterface t x => rw [h x (by simp)]
 case makeFunc f xs ys => rw [evls_congr (l := xs.toList) (fun x hx => h x (by simp [Array.mem_toList_iff.1 hx])), evls_congr (l := ys.toList) (fun x hx => h x (by simp [Array.mem_toList_iff.1 hx]))]
 case slice t x lo hi mx =>
   rw [omap_congr (x := lo) (fun y hy => h y (by simp [hy])), omap_congr (x := hi) (fun y hy => h y (by simp [hy])), omap_congr (x := mx) (fun y hy => h y (by simp [hy])), ← h x (by simp)]
   split
   · rename_i n k he
     have e : rowOf S n = rowOf S' n := rowOf_frame (hn (x := x) (by simp) (by rw [he]; simp [topN]))
     unfold rowSliceAV
     rw [e]
   · rfl
 case fieldAddr t x f => rw [h x (by simp)]
 case field t x f => rw [h x (by simp)]
 case indexAddr t x i =>
   rw [← h i (by simp), ← h x (by simp)]
   split
   · rename_i n k he
     have e : rowOf S n = rowOf S' n := rowOf_frame (hn (x := x) (by simp) (by rw [he]; simp [topN]))
     unfold rowIndexAV
     rw [e]
   · rfl
 case lookup t x i ok =>
   rw [← h i (by simp), ← h x (by simp)]
   exact lookupAV_congr fun n e => mapOf_frame (hn (x := x) (by simp) (by rw [e]; simp [topN]))
 case index t x i => rw [h x (by simp), h i (by simp)]
 case extract x i => rw [h x (by simp)]
 case build t ps => rw [evps_congr (l := ps.toList) (fun p hp => h p.2 (by simp only [List.mem_map]; exact ⟨p, hp, rfl⟩))]
 case call c =>
   cases hc : c.callee with
   | builtin b =>
     have hc' : evls S c.args.toList = evls S' c.args.toList := evls_congr (l := c.args.toList) (fun x hx => h x (by simp [Call.operands, Array.mem_toList_iff.1 hx]))
     rw [← hc']
     simp only
     split
     · rename_i n k l _ he
       have e : rowOf S n = rowOf S' n := by
         refine rowOf_frame ?_
         cases ha : c.args.toList with
         | nil => rw [ha] at he; simp [evls] at he
         | cons x r =>
           rw [ha] at he
           simp only [evls, List.cons.injEq] at he
           exact hn (x := x) (by have : x ∈ c.args.toList := by rw [ha]; simp
                                 simp [Call.operands, Array.mem_toList_iff.1 this]) (by rw [he.1]; simp [topN])
       unfold rowLenAV
       rw [e]
     · rfl
   | value f => rfl
   | invoke r m => rfl
section
variable {P : Program} [Globs P] {τ : Tab} {cx : Cx P} {Q : Exit → Act → World → Prop}
structure StepE (P : Program) [Globs P] (cx : Cx P) (all : List Oper) (f0 j : Nat) (o : Oper) (S : St) (z : AV) (S' : St) (rd wr : List Nat) : Prop where
 t : S'.t = (S.put o.dst z).t
 h : ∀ n, n ∉ wr → look n S'.h = look n S.h
 fr : S.fr ≤ S'.fr
 run : ∀ (Q : Exit → Act → World → Prop) (K : Act → World → Prop) (ι : Io) (S1 : St) (a : Act) (w : World), Rel cx.X cx.L cx.w0 cx.nt ι S1 a w → S'.fr ≤ S1.fr →
   (∀ t, t ∈ looksT all o → look t S1.t = look t S.t) → (∀ n, n ∈ rd ∨ n ∈ wr → look n S1.h = look n S.h) → (∀ n, S.fr ≤ n → n < S'.fr → ι n = none) →
   (∀ ι' a' w' S2, S2.t = (S1.put o.dst z).t → (∀ n, n ∈ wr → look n S2.h = look n S'.h) → (∀ n, n ∉ wr → look n S2.h = look n S1.h) → S2.fr = S1.fr →
     (∀ n, f0 ≤ n → ι n = none → (n < S.fr ∨ S'.fr ≤ n) → ι' n = none) → Rel cx.X cx.L cx.w0 cx.nt ι' S2 a' w' → K a' w') → wpOp P all.toArray Q j K a w
abbrev Fp := List Nat × List Nat
def fpAt (fps : List Fp) (i : Nat) : Fp := fps.getD i ([], [])
structure Can (P : Program) [Globs P] (cx : Cx P) (all : List Oper) (S0 : St) (fps : List Fp) (st : Nat → St) (z : Nat → AV) : Prop where
 zero : st 0 = S0
 step : ∀ i, i < fps.length → ∃ o, all[i]? = some o ∧ StepE P cx all S0.fr i o (st i) (z i) (st (i + 1)) (fpAt fps i).1 (fpAt fps i).2
def interB (a b : List Nat) : Bool := a.any fun n => memN n b
def conf1 (all : List Oper) (i : Nat) (p : Fp) : Nat → List Fp → Bool
 | _, [] => true
 | j, q :: r => (match (match interB p.2 q.1 with
     | true => true
     | false => (match interB p.2 q.2 with
       | true => true
       | false => interB p.1 q.2)) with
   | true => (match all[j]? with
     | some o => (match memN i (reachN all 6 (edgesN o.after.toList)) with
       | true => conf1 all i p (j + 1) r
       | false => false)
     | none => false)
   | false => conf1 all i p (j + 1) r)
def confB (all : List Oper) : Nat → List Fp → Bool
 | _, [] => true
 | i, p :: r => (match conf1 all i p (i + 1) r with
   | true => confB all (i + 1) r
   | false => false)
theorem interB_of {a b : List Nat} {n : Nat} (h1 : n ∈ a) (h2 : n ∈ b) : interB a b = true := List.any_eq_true.2 ⟨n, h1, memN_of h2⟩
theorem conf1_get {all : List Oper} {i : Nat} {p : Fp} : ∀ {r : List Fp} {j k : Nat}, conf1 all i p j r = true → k < r.length → ∀ n, (n ∈ p.1 ∨ n ∈ p.2) → n ∈ (fpAt r k).2 ∨ (n ∈ p.2 ∧ n ∈ (fpAt r k).1) →
   ∃ o, all[j + k]? = some o ∧ i ∈ reachN all 6 (edgesN o.after.toList)
 | [], j, k, h, hk => by simp at hk
 | q :: r, j, k, h, hk => by
   intro n h1 h2
   unfold conf1 at h
   cases k with
   | zero =>
     have e : (match interB p.2 q.1 with
         | true => true
         | false => (match interB p.2 q.2 with
           | true => true
           | false => interB p.1 q.2)) = true := by
       simp only [fpAt, List.getD_cons_zero] at h2
       rcases h2 with h2 | ⟨h2, h3⟩
       · rcases h1 with h1 | h1
         · rw [interB_of h1 h2]
           split
           · rfl
           · split <;> rfl
         · rw [interB_of h1 h2]
           split <;> rfl
       · rw [interB_of h2 h3]
     rw [e] at h
     simp only at h
     split at h
     · rename_i o ho
       split at h
       · rename_i hm
         exact ⟨o, by simpa using ho, memN_mem hm⟩
       · cases h
     · cases h
   | succ k =>
     have h' : conf1 all i p (j + 1) r = true := by
       split at h
       · split at h
         · split at h
           · exact h
           · cases h
         · cases h
       · exact h
     have := conf1_get h' (by simpa using hk) n h1 (by simpa [fpAt] using h2)
     rwa [show j + (k + 1) = j + 1 + k by omega]
theorem confB_get {all : List Oper} : ∀ {l : List Fp} {i a b : Nat}, confB all i l = true → a < b → b < l.length → ∀ n, (n ∈ (fpAt l a).1 ∨ n ∈ (fpAt l a).2) → n ∈ (fpAt l b).2 ∨ (n ∈ (fpAt l a).2 ∧ n ∈ (fpAt l b).1) →
   ∃ o, all[i + b]? = some o ∧ i + a ∈ reachN all 6 (edgesN o.after.toList)
 | [], i, a, b, h, hab, hb => by simp at hb
 | p :: r, i, a, b, h, hab, hb => by
   intro n h1 h2
   unfold confB at h
   split at h
   · rename_i hc
     obtain ⟨b, rfl⟩ : ∃ c, b = c + 1 := ⟨b - 1, by omega⟩
     cases a with
     | zero =>
       obtain ⟨o, g1, g2⟩ := conf1_get (k := b) hc (by simpa using hb) n (by simpa [fpAt] using h1) (by simpa [fpAt] using h2)
       exact ⟨o, by rw [show i + (b + 1) = i + 1 + b by omega]; exact g1, by simpa using g2⟩
     | succ a =>
       obtain ⟨o, g1, g2⟩ := confB_get (a := a) (b := b) h (by omega) (by simpa using hb) n (by simpa [fpAt] using h1) (by simpa [fpAt] using h2)
       exact ⟨o, by rw [show i + (b + 1) = i + 1 + b by omega]; exact g1, by rw [show i + (a + 1) = i + 1 + a by omega]; exact g2⟩
   · cases h
theorem Can.frm {all : List Oper} {S0 : St} {fps : List Fp} {st : Nat → St} {z : Nat → AV} (G : Can P cx all S0 fps st z) : ∀ {b a : Nat}, a ≤ b → b ≤ fps.length → (st a).fr ≤ (st b).fr := by
 intro b
 induction b with
 | zero => intro a h _; obtain rfl : a = 0 := by omega
           exact Nat.le_refl _
 | succ b ih =>
   intro a h hb
   by_cases e : a = b + 1
   · subst e; exact Nat.le_refl _
   · obtain ⟨o, _, hs⟩ := G.step b (by omega)
     exact Nat.le_trans (ih (by omega) (by omega)) hs.fr
theorem Can.lookH {all : List Oper} {S0 : St} {fps : List Fp} {st : Nat → St} {z : Nat → AV} (G : Can P cx all S0 fps st z) {n : Nat} : ∀ {b a : Nat}, a ≤ b → b ≤ fps.length → (∀ k, a ≤ k → k < b → n ∉ (fpAt fps k).2) → look n (st b).h = look n (st a).h := by
 intro b
 induction b with
 | zero => intro a h _ _; obtain rfl : a = 0 := by omega
           rfl
 | succ b ih =>
   intro a h hb hk
   by_cases e : a = b + 1
   · subst e; rfl
   · obtain ⟨o, _, hs⟩ := G.step b (by omega)
     rw [hs.h n (hk b (by omega) (by omega)), ih (a := a) (by omega) (by omega) fun k h1 h2 => hk k h1 (by omega)]
theorem Can.look0 {all : List Oper} {S0 : St} {fps : List Fp} {st : Nat → St} {z : Nat → AV} (G : Can P cx all S0 fps st z) {t : Nat} : ∀ {b : Nat}, b ≤ fps.length → (∀ k o, k < b → all[k]? = some o → o.dst ≠ some t) → look t (st b).t = look t S0.t := by
 intro b
 induction b with
 | zero => intro _ _; rw [G.zero]
 | succ b ih =>
   intro hb hk
   obtain ⟨o, ho, hs⟩ := G.step b (by omega)
   rw [hs.t, look_put_ne (hk b o (by omega) ho), ih (by omega) fun k o h1 h2 => hk k o (by omega) h2]
theorem Can.look1 {all : List Oper} {S0 : St} {fps : List Fp} {st : Nat → St} {z : Nat → AV} (G : Can P cx all S0 fps st z) {t i : Nat} {o : Oper} (ho : all[i]? = some o) (hd : o.dst = some t) : ∀ {b : Nat}, i < b → b ≤ fps.length →
   (∀ k o', k < b → all[k]? = some o' → o'.dst = some t → k = i) → look t (st b).t = some (z i) := by
 intro b
 induction b with
 | zero => intro h _ _; omega
 | succ b ih =>
   intro hi hb hk
   obtain ⟨o', ho', hs⟩ := G.step b (by omega)
   by_cases e : b = i
   · subst e
     rw [ho] at ho'
     cases ho'
     rw [hs.t, hd]
     exact look_put_eq
   · rw [hs.t, look_put_ne (fun h => e (hk b o' (by omega) ho' h)), ih (by omega) (by omega) fun k o' h1 h2 h3 => hk k o' (by omega) h2 h3]
structure InvE (all : List Oper) (S0 : St) (fps : List Fp) (st : Nat → St) (z : Nat → AV) (listed : Array Bool) (S : St) (ι : Io) : Prop where
 fr : S.fr = (st fps.length).fr
 on : ∀ (i : Nat) (o : Oper) (t : Nat), i < fps.length → listed[i]? = some true → all[i]? = some o → o.dst = some t → look t S.t = some (z i)
 off : ∀ t, (∀ (i : Nat) (o : Oper), i < fps.length → listed[i]? = some true → all[i]? = some o → o.dst ≠ some t) → look t S.t = look t S0.t
 hp : ∀ n, (∃ i, i < fps.length ∧ listed[i]? = some true ∧ n ∈ (fpAt fps i).2 ∧ (∀ j, j < fps.length → listed[j]? = some true → n ∈ (fpAt fps j).2 → j ≤ i) ∧ look n S.h = look n (st (i + 1)).h) ∨
   ((∀ i, i < fps.length → listed[i]? = some true → n ∉ (fpAt fps i).2) ∧ look n S.h = look n S0.h)
 un : ∀ i, i < fps.length → listed[i]? ≠ some true → ∀ n, (st i).fr ≤ n → n < (st (i + 1)).fr → ι n = none
def waitsN (all : List Oper) (i : Nat) : List Nat := match all[i]? with
 | some o => edgesN o.after.toList
 | none => []
def chkFreeE (pre all : List Oper) : Nat → List Oper → Bool
 | _, [] => true
 | j, o :: r => (match (edgesN o.after.toList).all (fun i => Nat.blt i j), (looksT all o).all (fun t => (wrN t 0 pre).all (fun i => (match memN i (edgesN o.after.toList) with
     | true => true
     | false => (match Nat.blt j i with
       | true => memN j (reachN all 6 (waitsN all i))
       | false => false)))), (match o.dst with
     | some d => (wrN d 0 pre).all (fun i => Nat.beq i j)
     | none => true) with
   | true, true, true => chkFreeE pre all (j + 1) r
   | _, _, _ => false)
def chkAnyE (m : Nat) (all : List Oper) : Bool := match chkFreeE (all.take m) all 0 (all.take m), chkTail all m (all.drop m) with
 | true, true => true
 | _, _ => false
theorem chkFreeE_get {pre all : List Oper} : ∀ {l : List Oper} {i j : Nat} {o : Oper}, chkFreeE pre all i l = true → l[j]? = some o →
   (∀ n, n ∈ edgesN o.after.toList → n < i + j) ∧ (∀ t, t ∈ looksT all o → ∀ n, n ∈ wrN t 0 pre → n ∈ edgesN o.after.toList ∨ (i + j < n ∧ i + j ∈ reachN all 6 (waitsN all n))) ∧ (∀ d, o.dst = some d → ∀ n, n ∈ wrN d 0 pre → n = i + j)
 | [], i, j, o, _, h => by simp at h
 | o' :: l, i, j, o, hc, h => by
   simp only [chkFreeE] at hc
   split at hc
   · rename_i h1 h2 h3
     cases j with
     | zero =>
       simp only [List.getElem?_cons_zero, Option.some.injEq] at h
       subst h
       refine ⟨fun n hn => blt_lt (List.all_eq_true.1 h1 n hn), fun t ht n hn => ?_, fun d hd n hn => ?_⟩
       · have h4 := List.all_eq_true.1 (List.all_eq_true.1 h2 t ht) n hn
         split at h4
         · rename_i h5
           exact .inl (memN_mem h5)
         · split at h4
           · rename_i h5
             exact .inr ⟨blt_lt h5, memN_mem h4⟩
           · cases h4
       · rw [hd] at h3
         exact Nat.eq_of_beq_eq_true (List.all_eq_true.1 h3 n hn)
     | succ j =>
       have := chkFreeE_get (j := j) hc (by simpa using h)
       rw [show i + (j + 1) = i + 1 + j by omega]
       exact this
   · cases hc
def chkE (fps : List Fp) (all : List Oper) : Bool := match confB all 0 fps, chkAnyE fps.length all with
 | true, true => true
 | _, _ => false
theorem any_freeE {all : List Oper} {S0 : St} {fps : List Fp} {st : Nat → St} {z : Nat → AV} (G : Can P cx all S0 fps st z) (hm : fps.length ≤ all.length) (hc : chkE fps all = true)
   (tail : ∀ ι a w, Rel cx.X cx.L cx.w0 cx.nt ι (st fps.length) a w → wpList P all.toArray Q (all.drop fps.length) a w) :
   ∀ (fuel : Nat) (listed : Array Bool) (S1 : St) (ι : Io) (a : Act) (w : World), listed.size = all.length → (listed.toList.filter (!·)).length ≤ fuel → (∀ j, fps.length ≤ j → listed[j]? ≠ some true) → (∀ (k : Nat) (o : Oper) (n : Nat), listed[k]? = some true → all[k]? = some o → n ∈ edgesN o.after.toList → listed[n]? = some true) → InvE all S0 fps st z listed S1 ι →
     Rel cx.X cx.L cx.w0 cx.nt ι S1 a w → wpAny P .any all.toArray Q fuel listed a w := by
 obtain ⟨hcb, hca⟩ : confB all 0 fps = true ∧ chkAnyE fps.length all = true := by
   unfold chkE at hc
   split at hc
   · exact ⟨by assumption, by assumption⟩
   · cases hc
 obtain ⟨hcf, hct⟩ : chkFreeE (all.take fps.length) all 0 (all.take fps.length) = true ∧ chkTail all fps.length (all.drop fps.length) = true := by
   unfold chkAnyE at hca
   split at hca
   · exact ⟨by assumption, by assumption⟩
   · cases hca
 have pre : ∀ {j : Nat} {o : Oper}, j < fps.length → all[j]? = some o → (all.take fps.length)[j]? = some o := by
   intro j o hj ho
   rw [List.getElem?_take, if_pos hj]; exact ho
 have edg : ∀ {j : Nat} {o : Oper}, j < fps.length → all[j]? = some o → ∀ n, n ∈ edgesN o.after.toList → n < j := by
   intro j o hj ho n hn
   have := (chkFreeE_get hcf (pre hj ho)).1 n hn
   omega
 have E : ∀ (k : Nat) (o : Oper) (n : Nat), all[k]? = some o → n ∈ edgesN o.after.toList → n < k := by
   intro k o n hk hn
   rcases Nat.lt_or_ge k fps.length with h | h
   · exact edg h hk n hn
   · have hg : (all.drop fps.length)[k - fps.length]? = some o := by
       rw [List.getElem?_drop, show fps.length + (k - fps.length) = k by omega]; exact hk
     have := (chkTail_get hct hg).1 n hn
     omega
 have ops : ∀ {j i : Nat} {o oi : Oper} {t : Nat}, j < fps.length → all[j]? = some o → t ∈ looksT all o → i < fps.length → all[i]? = some oi → oi.dst = some t → i ∈ edgesN o.after.toList ∨ (j < i ∧ j ∈ reachN all 6 (edgesN oi.after.toList)) := by
   intro j i o oi t hj ho ht hi hoi hd
   have := (chkFreeE_get hcf (pre hj ho)).2.1 t ht (0 + i) (wrN_mem (pre hi hoi) hd)
   simp only [Nat.zero_add] at this
   rwa [show waitsN all i = edgesN oi.after.toList by rw [waitsN, hoi]] at this
 have dis : ∀ {j i : Nat} {o oi : Oper} {t : Nat}, j < fps.length → all[j]? = some o → o.dst = some t → i < fps.length → all[i]? = some oi → oi.dst = some t → i = j := by
   intro j i o oi t hj ho ht hi hoi hd
   have := (chkFreeE_get hcf (pre hj ho)).2.2 t ht (0 + i) (wrN_mem (pre hi hoi) hd)
   omega
 have con : ∀ {i j n : Nat}, i < j → j < fps.length → (n ∈ (fpAt fps i).1 ∨ n ∈ (fpAt fps i).2) → n ∈ (fpAt fps j).2 ∨ (n ∈ (fpAt fps i).2 ∧ n ∈ (fpAt fps j).1) → ∃ o, all[j]? = some o ∧ i ∈ reachN all 6 (edgesN o.after.toList) := by
   intro i j n h1 h2 h3 h4
   have := confB_get (i := 0) hcb h1 h2 n h3 h4
   simpa using this
 have wri : ∀ (t k : Nat), (∃ i oi, i < k ∧ all[i]? = some oi ∧ oi.dst = some t) ∨ ∀ (i : Nat) (oi : Oper), i < k → all[i]? = some oi → oi.dst ≠ some t := by
   intro t k
   by_cases h : ∃ i oi, i < k ∧ all[i]? = some oi ∧ oi.dst = some t
   · exact .inl h
   · exact .inr fun i oi h1 h2 h3 => h ⟨i, oi, h1, h2, h3⟩
 have end_ : ∀ {listed : Array Bool} {S1 : St} {ι : Io} {a : Act} {w : World}, (∀ j, j < fps.length → listed[j]? = some true) → InvE all S0 fps st z listed S1 ι → Rel cx.X cx.L cx.w0 cx.nt ι S1 a w → Rel cx.X cx.L cx.w0 cx.nt ι (st fps.length) a w := by
   intro listed S1 ι a w hall hI H
   refine H.congr (fun t => ?_) (fun n => ?_) hI.fr.symm
   · rcases wri t fps.length with ⟨i, oi, h1, h2, h3⟩ | h1
     · rw [hI.on i oi t h1 (hall i h1) h2 h3]
       exact G.look1 h2 h3 h1 (Nat.le_refl _) fun k o' g1 g2 g3 => dis h1 h2 h3 g1 g2 g3
     · rw [hI.off t fun i o h2 _ h3 => h1 i o h2 h3]
       exact G.look0 (Nat.le_refl _) h1
   · rcases hI.hp n with ⟨i, h1, h2, h3, h4, h5⟩ | ⟨h1, h2⟩
     · rw [h5]
       exact G.lookH (by omega) (Nat.le_refl _) fun k g1 g2 g3 => by have := h4 k g2 (hall k g2) g3; omega
     · rw [h2, ← G.zero]
       exact G.lookH (Nat.zero_le _) (Nat.le_refl _) fun k g1 g2 g3 => h1 k g2 (hall k g2) g3
 intro fuel
 induction fuel with
 | zero =>
   intro listed S1 ι a w hs hf hno hcl hI H
   have hall : ∀ j, j < all.length → listed[j]? = some true := by
     intro j hj
     have h1 : listed[j]? = some listed[j] := Array.getElem?_eq_getElem (by omega)
     cases hb : listed[j] with
     | true => rw [h1, hb]
     | false =>
       rw [hb] at h1
       have := count_set listed.toList j (by simpa using h1)
       omega
   refine any_tail E _ fps.length 0 listed a w rfl hct hs (fun j => ⟨fun h => ?_, fun h => getD_ft.2 (hall j h.2)⟩) ?_ (tail ι a w (end_ (fun j hj => hall j (by omega)) hI H))
   · rw [getD_ft] at h
     have hj : j < all.length := by have := (Array.getElem?_eq_some_iff.1 h).1; omega
     exact ⟨Nat.lt_of_not_le fun hle => hno j hle h, hj⟩
   · rw [List.length_drop]
     rcases Nat.lt_or_ge fps.length all.length with h | h
     · exact absurd (hall _ h) (hno _ (Nat.le_refl _))
     · omega
 | succ fuel ih =>
   intro listed S1 ι a w hs hf hno hcl hI H
   by_cases hall : ∀ j, j < fps.length → listed[j]? = some true
   · have hg : ∀ j, listed.getD j false = true ↔ j < fps.length ∧ j < all.length := by
       intro j
       refine ⟨fun h => ?_, fun h => getD_ft.2 (hall j h.1)⟩
       rw [getD_ft] at h
       have hj : j < all.length := by have := (Array.getElem?_eq_some_iff.1 h).1; omega
       exact ⟨Nat.lt_of_not_le fun hle => hno j hle h, hj⟩
     refine any_tail E _ fps.length (fuel + 1) listed a w rfl hct hs hg ?_ (tail ι a w (end_ hall hI H))
     refine Nat.le_trans ?_ hf
     have key : ∀ (l : List Bool) (m : Nat), (∀ j, m ≤ j → l[j]? ≠ some true) → l.length - m ≤ (l.filter (!·)).length := by
       intro l
       induction l with
       | nil => intro m _; simp
       | cons b l ihl =>
         intro m hm
         cases m with
         | zero =>
           have hb : b = false := by
             have := hm 0 (Nat.le_refl _)
             cases b
             · rfl
             · simp at this
           have := ihl 0 fun j _ => by have := hm (j + 1) (by omega); simpa using this
           subst hb
           simp at this ⊢
           omega
         | succ m =>
           have := ihl m fun j hj => by have := hm (j + 1) (by omega); simpa using this
           cases b <;> simp at this ⊢ <;> omega
     have := key listed.toList fps.length fun j hj => by have := hno j hj; simpa using this
     rw [List.length_drop]
     simp only [Array.length_toList, hs] at this
     exact this
   · refine ⟨fun h => ?_, fun i hi => ?_⟩
     · exfalso
       have least : ∀ k, k ≤ fps.length → (∀ j, j < k → listed[j]? = some true) ∨ ∃ j, j < k ∧ listed[j]? = some false ∧ ∀ j', j' < j → listed[j']? = some true := by
         intro k
         induction k with
         | zero => intro _; exact .inl fun j hj => absurd hj (by omega)
         | succ k ihk =>
           intro hk
           rcases ihk (by omega) with h1 | ⟨j, h1, h2, h3⟩
           · have h2 : listed[k]? = some listed[k] := Array.getElem?_eq_getElem (by omega)
             cases hb : listed[k] with
             | true =>
               rw [hb] at h2
               refine .inl fun j hj => ?_
               rcases Nat.lt_or_ge j k with h3 | h3
               · exact h1 j h3
               · obtain rfl : j = k := by omega
                 exact h2
             | false =>
               rw [hb] at h2
               exact .inr ⟨k, by omega, h2, h1⟩
           · exact .inr ⟨j, by omega, h2, h3⟩
       rcases least fps.length (Nat.le_refl _) with h1 | ⟨j, h1, h2, h3⟩
       · exact hall h1
       · have hj : all[j]? = some all[j] := List.getElem?_eq_getElem (by omega)
         have : j ∈ Region.ready .any all.toArray listed := ready_iff.2 ⟨getD_tf.2 h2, _, hj, fun n hn => getD_ft.2 (h3 n (edg h1 hj n hn))⟩
         rw [h] at this
         cases this
     · obtain ⟨h1, oi, h2, h3⟩ := ready_iff.1 hi
       rw [getD_tf] at h1
       have hin := (List.getElem?_eq_some_iff.1 h2).1
       have reach : ∀ {j : Nat} {o : Oper} {n : Nat}, all[j]? = some o → (∀ n, n ∈ edgesN o.after.toList → listed[n]? = some true) → n ∈ reachN all 6 (edgesN o.after.toList) → listed[n]? = some true := fun {j o n} ho hl hn =>
         reachN_all (p := fun n => listed[n]? = some true) hcl 6 (edgesN o.after.toList) hl n hn
       have him : i < fps.length := by
         rcases Nat.lt_or_ge i fps.length with h4 | h4
         · exact h4
         · exfalso
           refine hall fun j hj => ?_
           have hg : (all.drop fps.length)[i - fps.length]? = some oi := by
             rw [List.getElem?_drop, show fps.length + (i - fps.length) = i by omega]; exact h2
           exact reach h2 (fun n hn => getD_ft.1 (h3 n hn)) ((chkTail_get hct hg).2 j (by omega))
       have ahead : ∀ {k n : Nat}, k < i → (n ∈ (fpAt fps i).1 ∨ n ∈ (fpAt fps i).2) → n ∈ (fpAt fps k).2 → listed[k]? = some true := by
         intro k n hk hn hw
         obtain ⟨o, g1, g2⟩ := con hk him (.inr hw) (hn.elim (fun h => .inr ⟨hw, h⟩) .inl)
         rw [h2] at g1
         cases g1
         exact reach h2 (fun n hn => getD_ft.1 (h3 n hn)) g2
       have behind : ∀ {k n : Nat}, i < k → k < fps.length → (n ∈ (fpAt fps i).1 ∨ n ∈ (fpAt fps i).2) → n ∈ (fpAt fps k).2 → listed[k]? ≠ some true := by
         intro k n hk hkm hn hw hl
         obtain ⟨o, g1, g2⟩ := con hk hkm hn (.inl hw)
         have := reach g1 (fun n hn => hcl k o n hl g1 hn) g2
         rw [h1] at this
         cases this
       obtain ⟨o, g1, g4⟩ := G.step i him
       rw [h2] at g1
       cases g1
       have agree : ∀ n, n ∈ (fpAt fps i).1 ∨ n ∈ (fpAt fps i).2 → look n S1.h = look n (st i).h := by
         intro n hn
         rcases hI.hp n with ⟨k, f1, f2, f3, f4, f5⟩ | ⟨f1, f2⟩
         · have hki : k ≠ i := fun e => by rw [e, h1] at f2; cases f2
           rcases Nat.lt_or_ge k i with hlt | hge
           · rw [f5]
             exact (G.lookH (by omega) (by omega) fun k' e1 e2 e3 => by have := f4 k' (by omega) (ahead e2 hn e3) e3; omega).symm
           · exact absurd f2 (behind (by omega) f1 hn f3)
         · rw [f2, ← G.zero]
           exact (G.lookH (Nat.zero_le _) (by omega) fun k' e1 e2 e3 => f1 k' (by omega) (ahead e2 hn e3) e3).symm
       refine g4.run Q _ ι S1 a w H (by rw [hI.fr]; exact G.frm (by omega) (Nat.le_refl _)) (fun t ht => ?_) agree (hI.un i him (by rw [h1]; simp)) fun ι' a' w' S2 e1 e2 e3 e4 e5 H' => ?_
       · rcases wri t fps.length with ⟨j, oj, f1, f2, f3⟩ | f1
         · rcases ops him h2 ht f1 f2 f3 with hje | ⟨hij, hre⟩
           · have hji := edg him h2 j hje
             rw [hI.on j oj t f1 (getD_ft.1 (h3 j hje)) f2 f3]
             exact (G.look1 f2 f3 hji (by omega) fun k o' d1 d2 d3 => dis f1 f2 f3 (by omega) d2 d3).symm
           · have hnl : listed[j]? ≠ some true := fun hl => by
               have := reach f2 (fun n hn => hcl j oj n hl f2 hn) hre
               rw [h1] at this
               cases this
             rw [hI.off t fun k o' d1 d2 d3 d4 => hnl (by rw [← dis f1 f2 f3 d1 d3 d4]; exact d2)]
             exact (G.look0 (by omega) fun k o' d1 d2 d3 => by have := dis f1 f2 f3 (by omega) d2 d3; omega).symm
         · rw [hI.off t fun j o f2 _ f3 => f1 j o f2 f3]
           exact (G.look0 (by omega) fun k o d1 d2 => f1 k o (by omega) d2).symm
       · have set_ : ∀ {j : Nat}, (listed.setIfInBounds i true)[j]? = some true → j = i ∨ listed[j]? = some true := by
           intro j hj
           rw [Array.getElem?_setIfInBounds] at hj
           by_cases hij : i = j
           · exact .inl hij.symm
           · rw [if_neg hij] at hj; exact .inr hj
         have mono : ∀ j : Nat, listed[j]? = some true → (listed.setIfInBounds i true)[j]? = some true := by
           intro j hj
           rw [Array.getElem?_setIfInBounds]
           by_cases hij : i = j
           · subst hij
             rw [if_pos rfl, if_pos (Array.getElem?_eq_some_iff.1 hj).1]
           · rw [if_neg hij]; exact hj
         have self : (listed.setIfInBounds i true)[i]? = some true := by
           rw [Array.getElem?_setIfInBounds, if_pos rfl, if_pos (by omega)]
         refine ih _ S2 ι' a' w' (by simp [hs]) ?_ (fun j hj => ?_) ?_ ⟨?_, ?_, ?_, ?_, ?_⟩ H'
         · have := count_set listed.toList i (by simpa using h1)
           rw [Array.toList_setIfInBounds]
           omega
         · rw [Array.getElem?_setIfInBounds, if_neg (by omega)]
           exact hno j hj
         · intro k ok n f1 f2 f3
           rcases set_ f1 with rfl | f1
           · rw [h2] at f2
             cases f2
             exact mono n (getD_ft.1 (h3 n f3))
           · exact mono n (hcl k ok n f1 f2 f3)
         · rw [e4]; exact hI.fr
         · intro j oj t f1 f2 f3 f4
           rcases set_ f2 with rfl | f2
           · rw [h2] at f3
             cases f3
             rw [e1, f4]
             exact look_put_eq
           · have hij : i ≠ j := fun e => by rw [← e, h1] at f2; cases f2
             rw [e1, look_put_ne fun e => hij (dis f1 f3 f4 him h2 e)]
             exact hI.on j oj t f1 f2 f3 f4
         · intro t ht
           have hti : oi.dst ≠ some t := ht i oi him self h2
           rw [e1, look_put_ne hti]
           exact hI.off t fun j oj f1 f2 f3 => ht j oj f1 (mono j f2) f3
         · intro n
           by_cases hn : n ∈ (fpAt fps i).2
           · refine .inl ⟨i, him, self, hn, fun j f1 f2 f3 => ?_, e2 n hn⟩
             rcases set_ f2 with rfl | f2
             · exact Nat.le_refl _
             · rcases Nat.lt_or_ge i j with hlt | hge
               · exact absurd f2 (behind hlt f1 (.inr hn) f3)
               · exact hge
           · rcases hI.hp n with ⟨k, f1, f2, f3, f4, f5⟩ | ⟨f1, f2⟩
             · refine .inl ⟨k, f1, mono k f2, f3, fun j d1 d2 d3 => ?_, by rw [e3 n hn]; exact f5⟩
               rcases set_ d2 with rfl | d2
               · exact absurd d3 hn
               · exact f4 j d1 d2 d3
             · refine .inr ⟨fun j d1 d2 d3 => ?_, by rw [e3 n hn]; exact f2⟩
               rcases set_ d2 with rfl | d2
               · exact hn d3
               · exact f1 j d1 d2 d3
         · intro j f1 f2 n d1 d2
           have hij : j ≠ i := fun e => f2 (by rw [e]; exact self)
           have f2' : listed[j]? ≠ some true := fun e => f2 (mono j e)
           have hf0 : S0.fr ≤ (st j).fr := by rw [← G.zero]; exact G.frm (Nat.zero_le _) (by omega)
           refine e5 n (by omega) (hI.un j f1 f2' n d1 d2) ?_
           rcases Nat.lt_or_ge j i with hlt | hge
           · have := G.frm (a := j + 1) (b := i) (by omega) (by omega)
             omega
           · have := G.frm (a := i + 1) (b := j) (by omega) (by omega)
             omega
def DE (P : Program) [Globs P] (cx : Cx P) (Q : Exit → Act → World → Prop) (all : List Oper) (id : Nat) (k : List KI) (S0 : St) (fps : List Fp) (rest : List Oper) (S : St) : Prop :=
 ∀ st z, Can P cx all S0 fps st z → st fps.length = S → all.drop fps.length = rest → fps.length ≤ all.length → AK P cx Q (.code (.region id all.toArray true) :: k) S0
theorem DE.fin {all rest : List Oper} {id : Nat} {k : List KI} {S0 S : St} {fps : List Fp} (hm : P.follows .mixedOrders = true) (hc : chkE fps all = true)
   (H : AK P cx Q (.ops all rest :: k) S) : DE P cx Q all id k S0 fps rest S := by
 intro st z G hS hr hl ι a w HR
 have drew : ∀ {w : World}, Rel cx.X cx.L cx.w0 cx.nt ι S0 a w → Rel cx.X cx.L cx.w0 cx.nt ι S0 a { w with drawn := w.drawn + 1 } := fun H => H.drew
 show (Code.region id all.toArray true).wp P (den P cx Q k) a w
 refine wp_region_any hm ?_
 have h0 : S0.fr ≤ (st fps.length).fr := by rw [← G.zero]; exact G.frm (Nat.zero_le _) (Nat.le_refl _)
 refine any_freeE G hl hc (fun ι a w H' => ?_) all.toArray.size (Array.replicate all.toArray.size false) ⟨S0.t, S0.h, (st fps.length).fr⟩ ι a _ (by simp) ?_ (fun j _ => ?_) (fun k o n h _ _ => ?_)
   ⟨rfl, fun i o t _ h => ?_, fun t _ => rfl, fun n => .inr ⟨fun i _ h => ?_, rfl⟩, fun i hi _ n h1 h2 => HR.hr.fresh n ?_⟩ ((drew HR).raise h0)
 · rw [hr]
   rw [hS] at H'
   exact H ι a w H'
 · exact Nat.le_trans (List.length_filter_le _ _) (by simp)
 · rw [Array.getElem?_replicate]
   split <;> simp
 · rw [Array.getElem?_replicate] at h
   split at h <;> simp at h
 · rw [Array.getElem?_replicate] at h
   split at h <;> simp at h
 · rw [Array.getElem?_replicate] at h
   split at h <;> simp at h
 · have := G.frm (a := 0) (b := i) (Nat.zero_le _) (by omega)
   rw [G.zero] at this
   omega
theorem DE.start {ops : Array Oper} {id : Nat} {k : List KI} {S : St} (h : DE P cx Q ops.toList id k S [] ops.toList S) : AKp P cx Q (.code (.region id ops true) :: k, S) :=
 h (fun _ => S) (fun _ => .nul) ⟨rfl, fun i hi => by simp at hi⟩ rfl rfl (Nat.zero_le _)
theorem DE.snoc {all r : List Oper} {id : Nat} {k : List KI} {S0 S : St} {o : Oper} {fps : List Fp} (z : AV) (S' : St) (p : Fp) (hs : ∀ j, all[j]? = some o → StepE P cx all S0.fr j o S z S' p.1 p.2) (h : DE P cx Q all id k S0 (fps ++ [p]) r S') :
   DE P cx Q all id k S0 fps (o :: r) S := by
 intro st zs G hS hr hl
 obtain ⟨h1, h2, h3⟩ := drop_cons hr
 refine h (fun i => if i ≤ fps.length then st i else S') (fun i => if i < fps.length then zs i else z) ⟨?_, fun i hi => ?_⟩ ?_ ?_ ?_
 · simp only [Nat.zero_le, if_true]; exact G.zero
 · simp only [List.length_append, List.length_cons, List.length_nil] at hi
   by_cases e : i < fps.length
   · obtain ⟨o', g1, g2⟩ := G.step i e
     refine ⟨o', g1, ?_⟩
     have e2 : fpAt (fps ++ [p]) i = fpAt fps i := by
       unfold fpAt
       rw [List.getD_eq_getElem?_getD, List.getD_eq_getElem?_getD, List.getElem?_append_left e]
     simp only [if_pos (Nat.le_of_lt e), if_pos e, if_pos (show i + 1 ≤ fps.length by omega), e2]
     exact g2
   · obtain rfl : i = fps.length := by omega
     refine ⟨o, h1, ?_⟩
     have e2 : fpAt (fps ++ [p]) fps.length = p := by
       unfold fpAt
       rw [List.getD_eq_getElem?_getD, List.getElem?_append_right (Nat.le_refl _), Nat.sub_self]
       rfl
     simp only [Nat.le_refl, if_true, Nat.lt_irrefl, if_false, if_neg (show ¬ fps.length + 1 ≤ fps.length by omega), e2, hS]
     exact hs _ h1
 · simp only [List.length_append, List.length_cons, List.length_nil, Nat.zero_add, if_neg (show ¬ fps.length + 1 ≤ fps.length by omega)]
 · simpa using h2
 · simpa using h3
theorem put_h (S : St) (d : Option Nat) (z : AV) : (S.put d z).h = S.h := by cases d <;> rfl
theorem evl_looks {all : List Oper} {S S1 : St} {o : Oper} (h : ∀ t, t ∈ looksT all o → look t S1.t = look t S.t) : ∀ x, x ∈ o.op.operands.toList → evl S1 x = evl S x := fun x hx => evl_congr fun t ht => h t (by
   subst ht
   simp only [looksT, Oper.looksAt, List.mem_append]
   exact .inl (List.mem_filterMap.2 ⟨.tmp t, hx, rfl⟩))
theorem DE.pure (hτ : TabOK P τ) {all r : List Oper} {id : Nat} {k : List KI} {S0 S : St} {o : Oper} {z : AV} {fps : List Fp} (hz : pureOp Ar.real τ S o.op = some z) (hg : guardB all S o = some true)
   (hd : ∀ d, o.dst = some d → d < cx.nt) (next : DE P cx Q all id k S0 (fps ++ [(topNs S o.op.operands.toList, [])]) r (S.put o.dst z)) : DE P cx Q all id k S0 fps (o :: r) S := by
 refine DE.snoc z _ (topNs S o.op.operands.toList, []) (fun j hj => ⟨rfl, fun n _ => by rw [put_h], by rw [put_fr]; exact Nat.le_refl _, ?_⟩) next
 intro Q' K ι S1 a w H hf h1 h2 h3 hK
 unfold wpOp
 rw [show all.toArray[j]? = some o by simpa using hj]
 simp only
 rw [guardB_spec H (by rw [guardB_congr h1]; exact hg), if_pos rfl]
 have ev := evl_looks h1
 have hz1 : pureOp Ar.real τ S1 o.op = some z := by
   rw [← hz]
   refine (pureOp_frame o.op (fun x hx => (ev x hx).symm) fun n hn => (h2 n (.inl hn)).symm).symm
 obtain ⟨v, hv, hr⟩ := pureOp_run hτ H hz1
 refine .inl ?_
 unfold Oper.wp
 rw [hv]
 exact hK ι _ w (S1.put o.dst z) rfl (fun n hn => by simp at hn) (fun n _ => by rw [put_h]) (put_fr _ _ _) (fun n _ h _ => h) (H.put hd hr)
theorem DE.skip {all r : List Oper} {id : Nat} {k : List KI} {S0 S : St} {o : Oper} {fps : List Fp} (hg : guardB all S o = some false) (hd : ∀ d, o.dst = some d → d < cx.nt)
   (next : DE P cx Q all id k S0 (fps ++ [([], [])]) r (S.put o.dst (.tup []))) : DE P cx Q all id k S0 fps (o :: r) S := by
 refine DE.snoc (.tup []) _ ([], []) (fun j hj => ⟨rfl, fun n _ => by rw [put_h], by rw [put_fr]; exact Nat.le_refl _, ?_⟩) next
 intro Q' K ι S1 a w H hf h1 h2 h3 hK
 unfold wpOp
 rw [show all.toArray[j]? = some o by simpa using hj]
 simp only
 rw [guardB_spec H (by rw [guardB_congr h1]; exact hg), if_neg (by simp)]
 exact hK ι _ w (S1.put o.dst (.tup [])) rfl (fun n hn => by simp at hn) (fun n _ => by rw [put_h]) (put_fr _ _ _) (fun n _ h _ => h) (H.put hd (.tup [] [] rfl (by simp)))
def storeB (A : Ar) (τ : Tab) (t : TypeId) (i off k : Nat) (x : AV) : Option Blk → Option Blk
 | some (.cs T cells) => (match x.st with
   | true => if x.cells.length = sizeAt τ t ∧ i * k + off + x.cells.length ≤ cells.length then some (.cs T (splice cells (i * k + off) x.cells)) else none
   | false => none)
 | some (.ds E k' es) => (match x.st with
   | true => if k = k' ∧ x.cells.length = sizeAt τ t then (match A.nthD es i, unDs x.cells with
     | some e, some ds => if off + ds.length ≤ k then (if k = ds.length then (match x with
         | .d d => some (.ds E k' (A.setD es i d))
         | _ => none) else some (.ds E k' (A.setD es i (.agg (splice e.cells off ds))))) else none
     | _, _ => none) else none
   | false => none)
 | some (.xs E k' m es cells) => (match x.st with
   | true => if k = k' ∧ x.cells.length = sizeAt τ t then (match Nat.beq i m with
     | true => if off + x.cells.length ≤ k then some (.xs E k' m es (splice cells off x.cells)) else none
     | false => none) else none
   | false => none)
 | some (.mp _) => none
 | none => none
theorem storeOp_B {A : Ar} {τ : Tab} {S : St} {t : TypeId} {n i off k : Nat} {x : AV} : storeOp A τ S t (.ptr n i off k) x = (match storeB A τ t i off k x (look n S.h) with
   | some B => some (S.wr n B)
   | none => none) := by
 unfold storeOp storeB
 cases x.st <;> dsimp only
 · cases look n S.h with
   | none => rfl
   | some B => cases B <;> rfl
 · cases look n S.h with
   | none => rfl
   | some B =>
     cases B with
     | cs T cells =>
       simp only
       split <;> rfl
     | ds E k' es =>
       dsimp only
       by_cases h1 : k = k' ∧ x.cells.length = sizeAt τ t
       · rw [if_pos h1, if_pos h1]
         cases A.nthD es i with
         | none => rfl
         | some e =>
           cases unDs x.cells with
           | none => rfl
           | some ds =>
             dsimp only
             by_cases h2 : off + ds.length ≤ k
             · rw [if_pos h2, if_pos h2]
               by_cases h3 : k = ds.length
               · rw [if_pos h3, if_pos h3]
                 cases x <;> rfl
               · rw [if_neg h3, if_neg h3]
             · rw [if_neg h2, if_neg h2]
       · rw [if_neg h1, if_neg h1]
     | mp f => rfl
     | xs E k' m es cells =>
       dsimp only
       by_cases h1 : k = k' ∧ x.cells.length = sizeAt τ t
       · rw [if_pos h1, if_pos h1]
         cases Nat.beq i m with
         | false => rfl
         | true =>
           dsimp only
           by_cases h2 : off + x.cells.length ≤ k
           · rw [if_pos h2, if_pos h2]
           · rw [if_neg h2, if_neg h2]
       · rw [if_neg h1, if_neg h1]
theorem DE.store (hτ : TabOK P τ) {all r : List Oper} {id : Nat} {k : List KI} {S0 S : St} {o : Oper} {t : TypeId} {p x : Operand} {n i off k' m : Nat} {B' : Blk} {fps : List Fp} (ho : o.op = .store t p x) (hp : evl S p = .ptr n i off k') (hs : sizeAt τ t = m + 1)
   (hS : storeB Ar.real τ t i off k' (evl S x) (look n S.h) = some B') (hg : guardB all S o = some true)
   (hd : ∀ d, o.dst = some d → d < cx.nt) (next : DE P cx Q all id k S0 (fps ++ [([], [n])]) r ((S.wr n B').put o.dst (.tup []))) : DE P cx Q all id k S0 fps (o :: r) S := by
 refine DE.snoc (.tup []) _ ([], [n]) (fun j hj => ⟨by cases o.dst <;> rfl, fun q hq => ?_, by rw [put_fr]; exact Nat.le_refl _, ?_⟩) next
 · rw [put_h]
   simp only [List.mem_singleton] at hq
   simp only [St.wr, look_cons, look_del]
   rw [if_neg (fun e => hq e.symm), if_neg hq]
 intro Q' K ι S1 a w H hf h1 h2 h3 hK
 unfold wpOp
 rw [show all.toArray[j]? = some o by simpa using hj]
 simp only
 rw [guardB_spec H (by rw [guardB_congr h1]; exact hg), if_pos rfl]
 have ev := evl_looks h1
 rw [ho] at ev
 have evp : evl S1 p = .ptr n i off k' := by rw [ev p (by simp [Op.operands]), hp]
 have evx : evl S1 x = evl S x := ev x (by simp [Op.operands])
 have hl : look n S1.h = look n S.h := h2 n (.inr (by simp))
 have hS1 : storeOp Ar.real τ S1 t (evl S1 p) (evl S1 x) = some (S1.wr n B') := by
   rw [evp, evx]
   rw [storeOp_B, hl, hS]
 obtain ⟨w', ι', r1, r2, r3⟩ := store_run hτ H (H.evl p) (H.evl x) (by omega) hS1
 have hrun : (execOp a.eval o).run P w = .ok .skip w' := by simp [execOp, ho, Sem.run_bind, r1]
 refine .inl ?_
 unfold Oper.wp
 rw [hrun]
 refine hK ι' _ w' ((S1.wr n B').put o.dst (.tup [])) ?_ (fun q hq => ?_) (fun q hq => ?_) (put_fr _ _ _) (fun q _ h _ => by rw [r3]; exact h) (r2.put hd (.tup [] [] rfl (by simp)))
 · cases o.dst <;> rfl
 · simp only [List.mem_singleton] at hq
   subst hq
   rw [put_h, put_h]
   simp only [St.wr, look_cons, if_pos]
 · simp only [List.mem_singleton] at hq
   rw [put_h]
   simp only [St.wr, look_cons, look_del]
   rw [if_neg (fun e => hq e.symm), if_neg hq]
theorem DE.alloc (hτ : TabOK P τ) {all r : List Oper} {id : Nat} {k : List KI} {S0 S : St} {o : Oper} {t : TypeId} {y : Ty} {fps : List Fp} (ho : o.op = .alloc t) (hy : look t τ = some y) (hz : okZero y = true) (hg : guardB all S o = some true)
   (hd : ∀ d, o.dst = some d → d < cx.nt) (next : DE P cx Q all id k S0 (fps ++ [([], [S.fr])]) r ((S.new (.cs t (zcells y))).put o.dst (.ptr S.fr 0 0 y.size))) : DE P cx Q all id k S0 fps (o :: r) S := by
 refine DE.snoc (.ptr S.fr 0 0 y.size) _ ([], [S.fr]) (fun j hj => ⟨by cases o.dst <;> rfl, fun q hq => ?_, by rw [put_fr]; exact Nat.le_succ _, ?_⟩) next
 · rw [put_h]
   simp only [List.mem_singleton] at hq
   simp only [St.new, look_cons]
   rw [if_neg (fun e => hq e.symm)]
 intro Q' K ι S1 a w H hf h1 h2 h3 hK
 rw [put_fr] at hf h3
 have hN : ι S.fr = none := h3 _ (Nat.le_refl _) (Nat.lt_succ_self _)
 have hlt : S.fr < S1.fr := hf
 unfold wpOp
 rw [show all.toArray[j]? = some o by simpa using hj]
 simp only
 rw [guardB_spec H (by rw [guardB_congr h1]; exact hg), if_pos rfl]
 obtain ⟨v, w', ι', r1, r2, r3, r4⟩ := alloc_runAt hτ H hN hlt hy hz
 have hrun : (execOp a.eval o).run P w = .ok (.value v) w' := by simp only [execOp, ho]; simp [Sem.run_bind, r1]
 refine .inl ?_
 unfold Oper.wp
 rw [hrun]
 refine hK ι' _ w' (St.put ⟨S1.t, (S.fr, .cs t (zcells y)) :: S1.h, S1.fr⟩ o.dst (.ptr S.fr 0 0 y.size)) ?_ (fun q hq => ?_) (fun q hq => ?_) (put_fr _ _ _) (fun q _ h h' => ?_) (r2.put hd r3)
 · cases o.dst <;> rfl
 · simp only [List.mem_singleton] at hq
   subst hq
   rw [put_h, put_h]
   simp only [St.new, look_cons, if_pos]
 · simp only [List.mem_singleton] at hq
   rw [put_h]
   simp only [look_cons]
   rw [if_neg (fun e => hq e.symm)]
 · rw [r4 q ?_]
   · exact h
   · rw [put_fr] at h'
     rintro rfl
     have : (S.new (.cs t (zcells y))).fr = S.fr + 1 := rfl
     omega
theorem DE.still {all r : List Oper} {id : Nat} {k : List KI} {S0 S : St} {o : Oper} {z : AV} {fps : List Fp} (hw0 : cx.w0.fr ≤ S0.fr) (hz : z.lt 0 = true)
   (hs : ∀ (Q : Exit → Act → World → Prop) (K : Act → World → Prop) (ι : Io) (S1 : St) (a : Act) (w : World), Rel cx.X cx.L cx.w0 cx.nt ι S1 a w → S.fr ≤ S1.fr → (∀ t, t ∈ looksT all o → look t S1.t = look t S.t) →
     (∀ ι' a' w', Rel cx.X cx.L cx.w0 cx.nt ι' (S1.put o.dst z) a' w' → K a' w') → ∀ j, all[j]? = some o → wpOp P all.toArray Q j K a w)
   (hle : S0.fr ≤ S.fr) (next : DE P cx Q all id k S0 (fps ++ [([], [])]) r (S.put o.dst z)) : DE P cx Q all id k S0 fps (o :: r) S := by
 refine DE.snoc z _ ([], []) (fun j hj => ⟨rfl, fun n _ => by rw [put_h], by rw [put_fr]; exact Nat.le_refl _, ?_⟩) next
 intro Q' K ι S1 a w H hf h1 h2 h3 hK
 rw [put_fr] at hf
 refine hs Q' K ι S1 a w H hf h1 (fun ι' a' w' H' => ?_) j hj
 have ht : ∀ t x, look t (S1.put o.dst z).t = some x → look t S1.t = some x ∨ x.lt 0 = true := by
   intro t x hx
   cases hd : o.dst with
   | none => rw [hd] at hx; exact .inl hx
   | some d =>
     rw [hd] at hx
     simp only [St.put, look_cons, look_del] at hx
     split at hx
     · obtain rfl := Option.some.inj hx
       exact .inr hz
     · split at hx
       · cases hx
       · exact .inl hx
 obtain ⟨ι2, g1, g2⟩ := Rel.purge (f0 := S0.fr) hw0 H H' (put_fr _ _ _) (fun n => by rw [put_h]) ht (by omega)
 exact hK ι2 a' w' (S1.put o.dst z) rfl (fun n hn => by simp at hn) (fun n _ => by rw [put_h]) (put_fr _ _ _) (fun n hn h _ => g2 n hn h) g1
end
end Go.Ua
