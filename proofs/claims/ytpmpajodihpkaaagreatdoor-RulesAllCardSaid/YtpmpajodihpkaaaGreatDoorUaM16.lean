/- The library of this claim and its walks, part 16, joined out of smaller texts. No statement stands in it. -/
import Derived.Test.YtpmpajodihpkaaaGreatDoorUaM15
import Derived.ChangeFn
import Derived.DataReads
import Derived.SizedLaws
set_option linter.unusedSimpArgs false
set_option linter.unusedVariables false
namespace Go.Ua
open Go Go.Proofs
section
variable {H : Type}
def oneD (ag : Bool) (l : List Dat) : Dat := match ag with
 | true => .agg l
 | false => l.headD (.agg [])
def aggAt (τ : Tab) (t : TypeId) : Bool := match look t τ with
 | some y => y.k.isAgg
 | none => false
def datOf (τ : Tab) : Nat → TypeId → DataW H → List Dat
 | 0, _, _ => []
 | f + 1, t, d => (match look t τ with
   | none => []
   | some y => (match y.k, d with
     | .int _, .lit (.int k n) => [.s (.int k n)]
     | .bool, .lit (.bool b) => [.s (.bool b)]
     | .string, .lit (.string l) => [.s (.str l)]
     | .slice e, .nil => [.view (sizeAt τ e) []]
     | .slice e, .slice es _ => [.view (sizeAt τ e) (es.map fun x => oneD (aggAt τ e) (datOf τ f e x))]
     | .struct fs, .agg ps => ((fs.zip ps).map fun p => datOf τ f p.1.2 p.2).flatten
     | _, _ => []))
def denseB (τ : Tab) : Nat → List (Nat × TypeId) → Option Nat
 | o, [] => some o
 | o, (p, t) :: r => (match Nat.beq p o with
   | true => denseB τ (o + sizeAt τ t) r
   | false => none)
def okT (τ : Tab) : Nat → TypeId → Bool
 | 0, _ => false
 | f + 1, t => (match look t τ with
   | none => false
   | some y => (match y.k with
     | .int _ => Nat.beq y.size 1
     | .bool => Nat.beq y.size 1
     | .string => Nat.beq y.size 1
     | .slice e => (match Nat.beq y.size 1, okT τ f e, Nat.blt 0 (sizeAt τ e), (match aggAt τ e with
         | true => true
         | false => Nat.beq (sizeAt τ e) 1) with
       | true, true, true, true => true
       | _, _, _, _ => false)
     | .struct fs => (match denseB τ 0 fs with
       | some n => (match Nat.beq n y.size with
         | true => fs.all fun p => okT τ f p.2
         | false => false)
       | none => false)
     | _ => false))
def rd0 (w : World) : Rd := fun b o v => w.cell? ⟨b, o, none⟩ = some v ∧ v.oneCell' = true
def CellsOK (R : Rd) (l : List Dat) (cs : List Value) : Prop :=
 l.length = cs.length ∧ (∀ v ∈ cs, v.oneCell' = true) ∧ ∀ (j : Nat) (c : Dat) (v : Value), l[j]? = some c → cs[j]? = some v → RepD R c v
theorem CellsOK.one {R : Rd} {c : Dat} {v : Value} (h : RepD R c v) (h1 : v.oneCell' = true) : CellsOK R [c] [v] := by
 refine ⟨rfl, fun u hu => ?_, fun j c' v' hc hv => ?_⟩
 · obtain rfl := List.mem_singleton.1 hu; exact h1
 · cases j with
   | zero => simp only [List.getElem?_cons_zero, Option.some.injEq] at hc hv; subst hc; subst hv; exact h
   | succ j => simp at hc
theorem CellsOK.nil {R : Rd} : CellsOK R [] [] := ⟨rfl, by simp, by simp⟩
theorem CellsOK.append {R : Rd} {l l' : List Dat} {cs cs' : List Value} (h : CellsOK R l cs) (h' : CellsOK R l' cs') : CellsOK R (l ++ l') (cs ++ cs') := by
 refine ⟨by simp [h.1, h'.1], fun v hv => ?_, fun j c v hc hv => ?_⟩
 · rcases List.mem_append.1 hv with hv | hv
   · exact h.2.1 v hv
   · exact h'.2.1 v hv
 · rcases Nat.lt_or_ge j l.length with hj | hj
   · rw [List.getElem?_append_left hj] at hc
     rw [List.getElem?_append_left (by have := h.1; omega)] at hv
     exact h.2.2 j c v hc hv
   · rw [List.getElem?_append_right hj] at hc
     rw [List.getElem?_append_right (by have := h.1; omega), ← h.1] at hv
     exact h'.2.2 _ c v hc hv
theorem look_sizeAt {P : Program} {τ : Tab} (hτ : TabOK P τ) {t : TypeId} {y : Ty} (h : look t τ = some y) : P.cellsOf t = y.size ∧ sizeAt τ t = y.size := by
 obtain ⟨d, i, hu, hi, hs, _⟩ := hτ.get h
 refine ⟨by simp [Program.cellsOf, hi, hs], ?_⟩
 unfold sizeAt
 rw [h]
theorem okT_look {τ : Tab} {f : Nat} {t : TypeId} (h : okT τ f t = true) : ∃ y, look t τ = some y := by
 cases f with
 | zero => cases h
 | succ f =>
   unfold okT at h
   split at h
   · cases h
   · exact ⟨_, by assumption⟩
theorem datOf_flat {τ : Tab} {f : Nat} {t : TypeId} {d : DataW H} {x : Dat} (ha : aggAt τ t = false) (h : x ∈ datOf τ f t d) : x.cells = [x] := by
 cases f with
 | zero => simp [datOf] at h
 | succ f =>
   unfold datOf at h
   unfold aggAt at ha
   split at h
   · simp at h
   · rename_i y hy
     rw [hy] at ha
     simp only at ha
     split at h
     all_goals first | (simp at h; done) | (simp only [List.mem_singleton] at h; subst h; rfl) | skip
     rename_i hk
     rw [hk] at ha
     simp [TK.isAgg] at ha
theorem oneD_cells {τ : Tab} {f : Nat} {t : TypeId} {d : DataW H} (hl : (match aggAt τ t with
   | true => true
   | false => Nat.beq (datOf τ f t d).length 1) = true) : (oneD (aggAt τ t) (datOf τ f t d)).cells = datOf τ f t d := by
 cases ha : aggAt τ t with
 | true => rfl
 | false =>
   rw [ha] at hl
   simp only at hl
   have hl := Nat.eq_of_beq_eq_true hl
   obtain ⟨x, hx⟩ := List.length_eq_one_iff.1 hl
   have := datOf_flat (x := x) ha (by rw [hx]; simp)
   rw [hx]
   exact this
theorem addr_none {a : Addr} {w : World} {v : Value} (h : w.cell? a = some v) : a.spot = none := by
 unfold World.cell? at h
 split at h
 · split at h
   · cases h
   · rename_i hn; simpa using hn
 · cases h
theorem trod_cells {P : Program} {τ : Tab} (hτ : TabOK P τ) {enc : TypeId × Value → H} {w : World} {spare : Nat → Bool} {held : Bool} : ∀ (f : Nat) (t : TypeId) (fuel : Nat) (cs : List Value) (d : DataW H) (ps : List MemPlace),
   okT τ f t = true → cs.length = P.cellsOf t → DataW.trod enc P w 0 spare held fuel t cs = some (d, ps) → CellsOK (rd0 w) (datOf τ f t d) cs := by
 intro f
 induction f with
 | zero => intro t fuel cs d ps h; cases h
 | succ f ih =>
   intro t fuel cs d ps ht hlen h
   cases fuel with
   | zero => simp [DataW.trod] at h
   | succ fuel =>
     unfold okT at ht
     split at ht
     · cases ht
     · rename_i y hy
       obtain ⟨dd, i, hu, hi, hs, hb, hz, hzl, hk, _⟩ := hτ.get hy
       unfold datOf
       rw [hy]
       simp only
       unfold DataW.trod at h
       rw [hu] at h
       split at ht
       · rename_i k hk'
         rw [hk'] at hk ⊢
         simp only [TK.ok] at hk
         subst hk
         split at h
         case h_2 k1 k2 n heq =>
           cases heq
           split at h
           · rename_i hw
             obtain ⟨rfl, hwf⟩ := hw
             simp only [Option.some.injEq, Prod.mk.injEq] at h
             obtain ⟨rfl, _⟩ := h
             exact CellsOK.one (.s (.int _ n) (by simpa [Lit.wf, Sc.ok] using hwf)) rfl
           · cases h
         all_goals first | (cases h; done) | (rename_i heq; cases heq; done) | (rename_i heq _; cases heq; done)
       · rename_i hk'
         rw [hk'] at hk ⊢
         simp only [TK.ok] at hk
         subst hk
         split at h
         case h_1 b heq =>
           simp only [Option.some.injEq, Prod.mk.injEq] at h
           obtain ⟨rfl, _⟩ := h
           exact CellsOK.one (.s (.bool b) trivial) rfl
         all_goals first | (cases h; done) | (rename_i heq; cases heq; done) | (rename_i heq _; cases heq; done)
       · rename_i hk'
         rw [hk'] at hk ⊢
         simp only [TK.ok] at hk
         subst hk
         split at h
         case h_4 b heq =>
           split at h
           · rename_i hsz
             simp only [Option.some.injEq, Prod.mk.injEq] at h
             obtain ⟨rfl, _⟩ := h
             exact CellsOK.one (.s (.str b.data.toList) (show b.data.toList.length ≤ maxLen by rw [Array.length_toList]; exact hsz)) rfl
           · cases h
         all_goals first | (cases h; done) | (rename_i heq; cases heq; done) | (rename_i heq _; cases heq; done)
       · rename_i e hk'
         rw [hk'] at hk ⊢
         simp only [TK.ok] at hk
         subst hk
         split at h
         case h_7 e' heq =>
           simp only [Option.some.injEq, Prod.mk.injEq] at h
           obtain ⟨rfl, _⟩ := h
           exact CellsOK.one (.nil _) rfl
         case h_8 e' a len cap heq =>
           cases heq
           simp only at h
           split at h
           · rename_i hb
             rw [Option.bind_eq_some_iff] at h
             obtain ⟨elems, hel, h⟩ := h
             rw [Option.map_eq_some_iff] at h
             obtain ⟨rest, _, h⟩ := h
             simp only [Prod.mk.injEq] at h
             obtain ⟨rfl, _⟩ := h
             have hok : okT τ f e = true ∧ 0 < sizeAt τ e ∧ (match aggAt τ e with
                 | true => true
                 | false => Nat.beq (sizeAt τ e) 1) = true := by
               split at ht
               · rename_i g1 g2 g3 g4
                 exact ⟨g2, blt_lt g3, g4⟩
               · cases ht
             obtain ⟨ok1, ok2, ok3⟩ := hok
             obtain ⟨ye, hye⟩ := okT_look ok1
             obtain ⟨hce, hse⟩ := look_sizeAt hτ hye
             rw [← hse] at hce
             have hlen2 : elems.length = len := by simpa using mapM_some_length hel
             have hall : ∀ (i : Nat) (x : DataW H × List MemPlace), elems[i]? = some x → ∃ cs, w.cells? 0 (a.add (i * sizeAt τ e)) (sizeAt τ e) = some cs ∧ CellsOK (rd0 w) (datOf τ f e x.1) cs ∧ cs.length = sizeAt τ e := by
               intro i x hx
               have hi := (List.getElem?_eq_some_iff.1 hx).1
               have := mapM_some_get hel i i (by rw [List.getElem?_range (by omega)])
               rw [hx, Option.bind_eq_some_iff] at this
               obtain ⟨cs, hc, ht'⟩ := this
               rw [hce] at hc
               have hcl := (World.cells?_some hc).2.1
               exact ⟨cs, hc, ih e fuel cs x.1 x.2 ok1 (by rw [hcl, hce]) ht', hcl⟩
             have hspot : elems ≠ [] → a.spot = none := by
               intro hne
               obtain ⟨x, r, hx⟩ := List.exists_cons_of_ne_nil hne
               obtain ⟨cs, hc, _, hcl⟩ := hall 0 x (by rw [hx]; rfl)
               have := (World.cells?_some hc).2.2 0 ok2
               rw [List.getElem?_eq_getElem (by omega)] at this
               rw [show (a.add (0 * sizeAt τ e)).add 0 = a by simp [Addr.add]] at this
               exact addr_none this
             have hcell : ∀ (i : Nat) (x : Dat) (j : Nat) (c : Dat), (elems.map fun x => oneD (aggAt τ e) (datOf τ f e x.1))[i]? = some x → x.cells[j]? = some c →
                 ∃ u, w.cell? ⟨a.block, a.off + i * sizeAt τ e + j, none⟩ = some u ∧ u.oneCell' = true ∧ RepD (rd0 w) c u := by
               intro i x j c hx hc
               rw [List.getElem?_map, Option.map_eq_some_iff] at hx
               obtain ⟨z, hz, rfl⟩ := hx
               obtain ⟨cs, hcs, hok, hcl⟩ := hall i z hz
               rw [oneD_cells (by rw [hok.1, hcl]; exact ok3)] at hc
               have hj : j < sizeAt τ e := by
                 have := (List.getElem?_eq_some_iff.1 hc).1
                 have := hok.1
                 omega
               have hu : cs[j]? = some cs[j] := List.getElem?_eq_getElem (by omega)
               refine ⟨cs[j], ?_, hok.2.1 _ (List.getElem_mem _), hok.2.2 j c _ hc hu⟩
               have := (World.cells?_some hcs).2.2 j hj
               rw [hu] at this
               have hne : elems ≠ [] := by intro e; rw [e] at hz; simp at hz
               have ha : (a.add (i * sizeAt τ e)).add j = ⟨a.block, a.off + i * sizeAt τ e + j, none⟩ := by
                 have := hspot hne
                 obtain ⟨b, o, sp⟩ := a
                 simp only at this
                 subst this
                 unfold Addr.add
                 split <;> split <;> simp_all
               rw [← ha]
               exact this
             have hll : len = (elems.map fun x => oneD (aggAt τ e) (datOf τ f e x.1)).length := by simp [hlen2]
             simp only [List.map_map]
             refine CellsOK.one ?_ rfl
             have hview := RepD.view (R := rd0 w) (sizeAt τ e) (elems.map fun x => oneD (aggAt τ e) (datOf τ f e x.1)) a cap (fun i j => (w.cell? ⟨a.block, a.off + i * sizeAt τ e + j, none⟩).getD undef)
               (by rw [← hll]; exact hb.2.1) hb.2.2 (fun hne => hspot fun e => hne (by rw [e]; rfl)) (fun i x hx => ?_) (fun i x j c hx hc => ?_) (fun i x j c hx hc => ?_)
             · rw [← hll] at hview
               exact hview
             · rw [List.getElem?_map, Option.map_eq_some_iff] at hx
               obtain ⟨z, hz, rfl⟩ := hx
               obtain ⟨cs, hcs, hok, hcl⟩ := hall i z hz
               rw [oneD_cells (by rw [hok.1, hcl]; exact ok3), hok.1, hcl]
             · obtain ⟨u, h1, h2, _⟩ := hcell i x j c hx hc
               simp only [h1, Option.getD_some]
               exact ⟨h1, h2⟩
             · obtain ⟨u, h1, h2, h3⟩ := hcell i x j c hx hc
               simp only [h1, Option.getD_some]
               exact h3
           · cases h
         all_goals first | (cases h; done) | (rename_i heq; cases heq; done) | (rename_i heq _; cases heq; done)
       · rename_i fsτ hk'
         rw [hk'] at hk ⊢
         simp only [TK.ok] at hk
         obtain ⟨fields, rfl, hfl⟩ := hk
         split at ht
         · rename_i n hd
           split at ht
           · rename_i hn
             have hn := Nat.eq_of_beq_eq_true hn
             have aux : ∀ (fl : List Field) (o n : Nat) (xs : List (DataW H × List MemPlace)), denseB τ o (fl.map fun f => (f.offset, f.type)) = some n → (∀ p, p ∈ fl.map (fun f => (f.offset, f.type)) → okT τ f p.2 = true) → n ≤ cs.length →
                 fl.mapM (fun f => DataW.trod enc P w 0 spare held fuel f.type ((cs.drop f.offset).take (P.cellsOf f.type))) = some xs →
                 o ≤ n ∧ CellsOK (rd0 w) ((((fl.map fun f => (f.offset, f.type)).zip (xs.map (·.1))).map fun p => datOf τ f p.1.2 p.2).flatten) ((cs.drop o).take (n - o)) := by
               intro fl
               induction fl with
               | nil =>
                 intro o n xs h1 _ _ h2
                 simp only [List.map_nil, denseB, Option.some.injEq] at h1
                 subst h1
                 refine ⟨Nat.le_refl _, ?_⟩
                 simp
                 exact CellsOK.nil
               | cons fd fl ihl =>
                 intro o n xs h1 hall hle h2
                 simp only [List.map_cons, denseB] at h1
                 split at h1
                 · rename_i ho
                   have ho := Nat.eq_of_beq_eq_true ho
                   rw [List.mapM_cons] at h2
                   simp only [Option.bind_eq_bind, Option.bind_eq_some_iff, Option.pure_def, Option.some.injEq] at h2
                   obtain ⟨z, hz, zs, hzs, rfl⟩ := h2
                   have okf : okT τ f fd.type = true := hall (fd.offset, fd.type) (by simp)
                   obtain ⟨yf, hyf⟩ := okT_look okf
                   obtain ⟨hcf, hsf⟩ := look_sizeAt hτ hyf
                   rw [← hsf] at hcf
                   obtain ⟨g1, g2⟩ := ihl (o + sizeAt τ fd.type) n zs h1 (fun p hp => hall p (List.mem_cons_of_mem _ hp)) hle hzs
                   have g3 := ih fd.type fuel ((cs.drop fd.offset).take (P.cellsOf fd.type)) z.1 z.2 okf (by simp only [List.length_take, List.length_drop]; omega) hz
                   refine ⟨by omega, ?_⟩
                   have e : (cs.drop o).take (n - o) = (cs.drop fd.offset).take (P.cellsOf fd.type) ++ (cs.drop (o + sizeAt τ fd.type)).take (n - (o + sizeAt τ fd.type)) := by
                     rw [ho, hcf]
                     have e1 : n - o = sizeAt τ fd.type + (n - (o + sizeAt τ fd.type)) := by omega
                     rw [e1, List.take_add, List.drop_drop]
                   rw [e]
                   simp only [List.map_cons, List.zip_cons_cons, List.flatten_cons]
                   exact g3.append g2
                 · cases h1
             replace h : (if cs.length = P.cellsOf t then (fields.toList.mapM fun f => DataW.trod enc P w 0 spare held fuel f.type ((cs.drop f.offset).take (P.cellsOf f.type))).map fun xs => (DataW.agg (xs.map (·.1)), xs.flatMap (·.2)) else none) = some (d, ps) := h
             rw [if_pos hlen, Option.map_eq_some_iff] at h
             obtain ⟨xs, hxs, h⟩ := h
             simp only [Prod.mk.injEq] at h
             obtain ⟨rfl, _⟩ := h
             obtain ⟨hcy, _⟩ := look_sizeAt hτ hy
             have hlen' : cs.length = n := by rw [hlen, hcy, hn]
             obtain ⟨_, g⟩ := aux fields.toList 0 n xs (by rw [hfl]; exact hd) (fun p hp => List.all_eq_true.1 ht p (by rw [← hfl]; exact hp)) (by omega) hxs
             rw [hfl] at g
             rw [List.drop_zero, Nat.sub_zero, ← hlen', List.take_length] at g
             exact g
           · cases ht
         · cases ht
       · cases ht
end
section
variable {H : Type}
def typed (τ : Tab) : Nat → TypeId → List Dat → Prop
 | 0, _, _ => False
 | f + 1, t, l => (match look t τ with
   | none => False
   | some y => (match y.k with
     | .int k => ∃ n, l = [.s (.int k n)] ∧ (Lit.int k n).wf = true
     | .bool => ∃ b, l = [.s (.bool b)]
     | .string => ∃ s : List UInt8, l = [.s (.str s)] ∧ s.length ≤ maxLen
     | .slice e => ∃ es, l = [.view (sizeAt τ e) es] ∧ es.length ≤ maxLen ∧ ∀ x, x ∈ es → ∃ l', x = oneD (aggAt τ e) l' ∧ typed τ f e l'
     | .struct fs => ∃ ls : List (List Dat), ls.length = fs.length ∧ l = ls.flatten ∧ ∀ (i : Nat) (p : Nat × TypeId) (l' : List Dat), fs[i]? = some p → ls[i]? = some l' → typed τ f p.2 l'
     | _ => False))
theorem trod_typed {P : Program} {τ : Tab} (hτ : TabOK P τ) {enc : TypeId × Value → H} {w : World} {spare : Nat → Bool} {held : Bool} : ∀ (f : Nat) (t : TypeId) (fuel : Nat) (cs : List Value) (d : DataW H) (ps : List MemPlace),
   okT τ f t = true → DataW.trod enc P w 0 spare held fuel t cs = some (d, ps) → typed τ f t (datOf τ f t d) := by
 intro f
 induction f with
 | zero => intro t fuel cs d ps h; cases h
 | succ f ih =>
   intro t fuel cs d ps ht h
   cases fuel with
   | zero => simp [DataW.trod] at h
   | succ fuel =>
     unfold okT at ht
     split at ht
     · cases ht
     · rename_i y hy
       obtain ⟨dd, i, hu, hi, hs, hb, hz, hzl, hk, _⟩ := hτ.get hy
       unfold datOf typed
       rw [hy]
       simp only
       unfold DataW.trod at h
       rw [hu] at h
       split at ht
       · rename_i k hk'
         rw [hk'] at hk ⊢
         simp only [TK.ok] at hk
         subst hk
         split at h
         case h_2 k1 k2 n heq =>
           cases heq
           split at h
           · rename_i hw
             obtain ⟨rfl, hw⟩ := hw
             simp only [Option.some.injEq, Prod.mk.injEq] at h
             obtain ⟨rfl, _⟩ := h
             exact ⟨n, rfl, hw⟩
           · cases h
         all_goals first | (cases h; done) | (rename_i heq; cases heq; done) | (rename_i heq _; cases heq; done)
       · rename_i hk'
         rw [hk'] at hk ⊢
         simp only [TK.ok] at hk
         subst hk
         split at h
         case h_1 b heq =>
           simp only [Option.some.injEq, Prod.mk.injEq] at h
           obtain ⟨rfl, _⟩ := h
           exact ⟨b, rfl⟩
         all_goals first | (cases h; done) | (rename_i heq; cases heq; done) | (rename_i heq _; cases heq; done)
       · rename_i hk'
         rw [hk'] at hk ⊢
         simp only [TK.ok] at hk
         subst hk
         split at h
         case h_4 b heq =>
           split at h
           · rename_i hsz
             simp only [Option.some.injEq, Prod.mk.injEq] at h
             obtain ⟨rfl, _⟩ := h
             exact ⟨_, rfl, by simpa using hsz⟩
           · cases h
         all_goals first | (cases h; done) | (rename_i heq; cases heq; done) | (rename_i heq _; cases heq; done)
       · rename_i e hk'
         rw [hk'] at hk ⊢
         simp only [TK.ok] at hk
         subst hk
         have ok1 : okT τ f e = true := by
           split at ht
           · assumption
           · cases ht
         split at h
         case h_7 e' heq =>
           simp only [Option.some.injEq, Prod.mk.injEq] at h
           obtain ⟨rfl, _⟩ := h
           exact ⟨[], rfl, by simp, by simp⟩
         case h_8 e' a len cap heq =>
           cases heq
           simp only at h
           split at h
           · rename_i hb
             rw [Option.bind_eq_some_iff] at h
             obtain ⟨elems, hel, h⟩ := h
             rw [Option.map_eq_some_iff] at h
             obtain ⟨rest, _, h⟩ := h
             simp only [Prod.mk.injEq] at h
             obtain ⟨rfl, _⟩ := h
             have hlen2 : elems.length = len := by simpa using mapM_some_length hel
             refine ⟨_, rfl, ?_, fun x hx => ?_⟩
             · simp only [List.length_map]; omega
             · simp only [List.mem_map] at hx
               obtain ⟨_, ⟨z, hz, rfl⟩, rfl⟩ := hx
               obtain ⟨i, hi⟩ := List.mem_iff_getElem?.1 hz
               have hil := (List.getElem?_eq_some_iff.1 hi).1
               have := mapM_some_get hel i i (by rw [List.getElem?_range (by omega)])
               rw [hi, Option.bind_eq_some_iff] at this
               obtain ⟨cs, _, ht'⟩ := this
               exact ⟨_, rfl, ih e fuel cs z.1 z.2 ok1 ht'⟩
           · cases h
         all_goals first | (cases h; done) | (rename_i heq; cases heq; done) | (rename_i heq _; cases heq; done)
       · rename_i fsτ hk'
         rw [hk'] at hk ⊢
         simp only [TK.ok] at hk
         obtain ⟨fields, rfl, hfl⟩ := hk
         have hok : ∀ p, p ∈ fsτ → okT τ f p.2 = true := by
           split at ht
           · split at ht
             · exact fun p hp => List.all_eq_true.1 ht p hp
             · cases ht
           · cases ht
         replace h : (if cs.length = P.cellsOf t then (fields.toList.mapM fun f => DataW.trod enc P w 0 spare held fuel f.type ((cs.drop f.offset).take (P.cellsOf f.type))).map fun xs => (DataW.agg (xs.map (·.1)), xs.flatMap (·.2)) else none) = some (d, ps) := h
         split at h
         · rw [Option.map_eq_some_iff] at h
           obtain ⟨xs, hxs, h⟩ := h
           simp only [Prod.mk.injEq] at h
           obtain ⟨rfl, _⟩ := h
           have hlx := mapM_some_length hxs
           have hlf : fsτ.length = fields.toList.length := by rw [← hfl]; simp
           refine ⟨_, ?_, rfl, fun i p l' hp hl' => ?_⟩
           · simp [hlx, hlf]
           · rw [List.getElem?_map, Option.map_eq_some_iff] at hl'
             obtain ⟨z, hz, rfl⟩ := hl'
             rw [List.getElem?_zip_eq_some] at hz
             obtain ⟨h1, h2⟩ := hz
             rw [hp] at h1
             cases h1
             rw [List.getElem?_map, Option.map_eq_some_iff] at h2
             obtain ⟨x, hx, hx2⟩ := h2
             rw [← hfl, List.getElem?_map, Option.map_eq_some_iff] at hp
             obtain ⟨fd, hfd, hfd2⟩ := hp
             have := mapM_some_get hxs i fd hfd
             rw [hx] at this
             have hpt : z.1.2 = fd.type := by rw [← hfd2]
             rw [← hx2, hpt]
             exact ih fd.type fuel _ x.1 x.2 (by rw [← hpt]; exact hok _ (by rw [← hfl]; rw [← hfd2]; exact List.mem_map.2 ⟨fd, List.mem_of_getElem? hfd, rfl⟩)) this
         · cases h
       · cases ht
end
section
variable {P : Program} [Globs P] {f : FuncId} {w : World}
theorem rd0_rdOf {b o : Nat} {v : Value} (h : rd0 w b o v) : rdOf (fun _ => False) (fun _ => none) [] w b o v := by
 refine ⟨?_, h⟩
 rintro (h1 | ⟨n, c, l, h1, _⟩)
 · exact h1
 · simp [look] at h1
theorem ASpec.calls {args : List AV} {vs : List Value} {b : Bool} (H : ASpec P f args [] 0 (fun x h' fr' => x = .d (.s (.bool b)) ∧ h' = [] ∧ fr' = 0)) (hl : args.length = vs.length) (hG : ∀ b p, Globs.G P b p → ∃ cs t fz, p cs ∧ w.heap[b]? = some (.cells cs.toArray t fz))
   (hr : ∀ (i : Nat) (x : AV) (v : Value), args[i]? = some x → vs[i]? = some v → RepV (rd0 w) (fun _ => none) x v) :
   Calls P f vs.toArray w (fun e w' => e = .returned (.bool b) ∧ RowKit.Below w.heap.size w w') := by
 have h0 : HRel (fun _ => False) (fun _ => False) ⟨w, fun _ => none, 0⟩ (fun _ => none) [] 0 w :=
   ⟨fun n b h => by simp [look] at h, fun n m b c l c' l' h => by simp [look] at h, fun n b c l h => by simp [look] at h, fun n _ => rfl, fun b h => h.elim, Kept.refl _ _, fun n p h => absurd h (by simp)⟩
 refine (H.2 _ _ w _ vs h0 (fun b cs hg => ⟨fun h => h, hG b cs hg⟩) hl fun i x v h1 h2 => (hr i x v h1 h2).mono (fun b o v h => rd0_rdOf h) (fun _ _ h => h)).mono ?_
 rintro e w' ⟨v, x, h', fr', ι', rfl, ⟨rfl, _, _⟩, hrep, hw⟩
 rw [rep_s hrep]
 exact ⟨rfl, hw.kp.below fun k h => h⟩
theorem ASpec.callsE {args : List AV} {vs : List Value} {b : Bool} (H : ESpec P f args (fun x => x = .d (.s (.bool b)))) (hl : args.length = vs.length) (hG : ∀ b p, Globs.G P b p → ∃ cs t fz, p cs ∧ w.heap[b]? = some (.cells cs.toArray t fz))
   (hr : ∀ (i : Nat) (x : AV) (v : Value), args[i]? = some x → vs[i]? = some v → RepV (rd0 w) (fun _ => none) x v) :
   Calls P f vs.toArray w (fun e w' => e = .returned (.bool b) ∧ RowKit.Below w.heap.size w w') := ASpec.calls H hl hG hr
theorem block_of_var {P : Program} {w : World} {n : String} {g : Nat} {cs : Array Value} (hg : P.globalNamed n = some g) (h : w.var? P n = some cs) : ∃ t fz, w.heap[g]? = some (.cells cs t fz) := by
 unfold World.var? at h
 rw [hg] at h
 simp only [Option.bind_some] at h
 split at h
 · rename_i c t fz hb
   obtain rfl := Option.some.inj h
   exact ⟨t, fz, hb⟩
 · cases h
theorem HRel.grown {X L : Nat → Prop} {w0 : W0} {ι : Io} {h : List (Nat × Blk)} {fr : Nat} {w w' : World} (H : HRel X L w0 ι h fr w) (b : RowKit.Below w.heap.size w w') : HRel X L w0 ι h fr w' := by
 have hold : ∀ k, k < w.heap.size → w'.heap[k]? = w.heap[k]? := b.block
 refine H.step (ι' := ι) (h' := h) (fun _ _ h => h) (fun k hk hb => ⟨hold k hk, hb⟩) (fun n B hB => .inl ⟨hB, fun k c l hi => ?_⟩) H.inj H.out H.fresh (Y := fun _ => False) ⟨b.os, b.tape, b.output, b.size, fun k hk _ => hold k hk⟩ (fun _ h => h.elim)
 have hb := H.bad_lt (.inr ⟨n, c, l, by rw [hB]; rfl, hi⟩)
 exact hold k hb
theorem ESpec.grown {P : Program} [Globs P] {f : FuncId} {args : List AV} {z : Sc} (he : Enters P f) (hz : z.ok)
   (H : ∀ (R : Rd) (ι : Io) (vs : List Value) (w : World), (∀ b o v, R b o v → w.cell? ⟨b, o, none⟩ = some v) → (∀ b p, Globs.G P b p → ∃ cs t fz, p cs ∧ w.heap[b]? = some (.cells cs.toArray t fz)) → args.length = vs.length → (∀ (i : Nat) (x : AV) (v : Value), args[i]? = some x → vs[i]? = some v → RepV R ι x v) →
     Calls P f vs.toArray w (fun e w' => e = .returned z.val ∧ RowKit.Below w.heap.size w w')) : ESpec P f args (fun x => x = .d (.s z)) := by
 refine ⟨he, fun X L w ι vs h1 hg h2 h3 => (H _ ι vs w (fun b o v h => h.2.1) (fun b p h => (hg b p h).2) h2 h3).mono ?_⟩
 rintro e w' ⟨rfl, hb⟩
 exact ⟨_, _, [], 0, ι, rfl, ⟨rfl, rfl, rfl⟩, .d _ _ (.s z hz), h1.grown hb⟩
mutual
def Dat.sz (N : Nat) : Dat → Prop
 | .s (.str l) => l.length ≤ N
 | .agg cs => Dat.szs N cs
 | .view _ es => Dat.szs N es
 | _ => True
def Dat.szs (N : Nat) : List Dat → Prop
 | [] => True
 | x :: r => x.sz N ∧ Dat.szs N r
end
def strDs (ls : List (List UInt8)) : List Dat := ls.map fun s => .s (.str s)
end
end Go.Ua
