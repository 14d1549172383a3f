/- The library of this claim and its walks, part 8, joined out of smaller texts. No statement stands in it. -/
import Derived.Test.YtpmpajodihpkaaaGreatDoorUaM7
set_option linter.unusedSimpArgs false
set_option linter.unusedVariables false
namespace Go.Ua
open Go
section
variable {X L : Nat → Prop} {w0 : W0} {w w' : World} {nt : Nat} {ι : Io} {S : St} {a : Act} {P : Program} {τ : Tab} {R : Rd}
def chunk (k : Nat) (ag : Bool) : Nat → List Dat → Option (List Dat)
 | 0, _ => some []
 | n + 1, l => (match chunk k ag n (l.drop k) with
   | some r => (match ag with
     | true => some (.agg (l.take k) :: r)
     | false => (match l with
       | .agg _ :: _ => none
       | x :: _ => some (x :: r)
       | [] => none))
   | none => none)
theorem chunk_spec {k : Nat} {ag : Bool} (hk : ag = true ∨ k = 1) : ∀ {n : Nat} {l es : List Dat}, l.length = n * k → chunk k ag n l = some es →
   es.length = n ∧ (∀ (i : Nat) (e : Dat), es[i]? = some e → e.cells.length = k) ∧ ∀ (i : Nat) (e : Dat) (j : Nat) (c : Dat), es[i]? = some e → e.cells[j]? = some c → l[i * k + j]? = some c := by
 intro n
 induction n with
 | zero => intro l es hl h; simp [chunk] at h; subst h; simp
 | succ n ih =>
   intro l es hl h
   rw [Nat.succ_mul] at hl
   simp only [chunk] at h
   split at h
   · rename_i r hr
     obtain ⟨h1, h2, h3⟩ := ih (l := l.drop k) (by simp; omega) hr
     have fin : ∀ e0 : Dat, e0.cells.length = k → (∀ (j : Nat) (c : Dat), e0.cells[j]? = some c → l[j]? = some c) → es = e0 :: r →
         es.length = n + 1 ∧ (∀ (i : Nat) (e : Dat), es[i]? = some e → e.cells.length = k) ∧ ∀ (i : Nat) (e : Dat) (j : Nat) (c : Dat), es[i]? = some e → e.cells[j]? = some c → l[i * k + j]? = some c := by
       intro e0 he0 hc0 he
       subst he
       refine ⟨by simp [h1], fun i e hi => ?_, fun i e j c hi hc => ?_⟩
       · cases i with
         | zero => simp at hi; subst hi; exact he0
         | succ i => exact h2 i e (by simpa using hi)
       · cases i with
         | zero => simp at hi; subst hi; simpa using hc0 j c hc
         | succ i =>
           have := h3 i e j c (by simpa using hi) hc
           rw [List.getElem?_drop] at this
           rw [Nat.succ_mul, show i * k + k + j = k + (i * k + j) by omega]
           exact this
     split at h
     · obtain rfl := Option.some.inj h
       refine fin (.agg (l.take k)) (by simp [Dat.cells]; omega) (fun j c hc => ?_) rfl
       simp only [Dat.cells] at hc
       rw [List.getElem?_take] at hc
       split at hc
       · exact hc
       · cases hc
     · rcases hk with hk | hk
       · cases hk
       · subst hk
         split at h
         · cases h
         · rename_i x xs hne
           obtain rfl := Option.some.inj h
           have hxc : x.cells = [x] := by
             cases x <;> first | rfl | exact (hne _ _ rfl).elim | exact (hne _ rfl).elim | exact (hne rfl).elim | (simp at hne)
           refine fin x (by rw [hxc]; rfl) (fun j c hc => ?_) rfl
           rw [hxc] at hc
           cases j with
           | zero => simpa using hc
           | succ j => simp at hc
         · cases h
   · cases h
def zrep (y : Ty) : Nat → List AV
 | 0 => []
 | n + 1 => zcells y ++ zrep y n
def zrepV (y : Ty) : Nat → List Value
 | 0 => []
 | n + 1 => y.zero.map Sc.val ++ zrepV y n
theorem zrepV_length (y : Ty) (n : Nat) : (zrepV y n).length = n * y.zero.length := by
 induction n with
 | zero => simp [zrepV]
 | succ n ih => simp [zrepV, ih, Nat.succ_mul]; omega
theorem zrepV_get (y : Ty) (n j : Nat) (hj : j < n * y.zero.length) : (zrepV y n)[j]? = (y.zero.map Sc.val)[j % y.zero.length]? := by
 induction n generalizing j with
 | zero => simp at hj
 | succ n ih =>
   rw [Nat.succ_mul] at hj
   simp only [zrepV]
   rcases Nat.lt_or_ge j y.zero.length with h | h
   · rw [List.getElem?_append_left (by simpa using h), Nat.mod_eq_of_lt h]
   · rw [List.getElem?_append_right (by simpa using h), List.length_map, ih _ (by omega)]
     congr 1
     conv => rhs; rw [show j = (j - y.zero.length) + y.zero.length by omega, Nat.add_mod_right]
theorem zrep_length (y : Ty) (n : Nat) : (zrep y n).length = (zrepV y n).length := by
 induction n with
 | zero => rfl
 | succ n ih => simp [zrep, zrepV, zcells, ih]
theorem zrep_rep (y : Ty) (ho : ∀ x, x ∈ y.zero → x.ok) (n : Nat) : ∀ (i : Nat) (c : AV) (u : Value), (zrep y n)[i]? = some c → (zrepV y n)[i]? = some u → RepV R ι c u := by
 induction n with
 | zero => intro i c u h; simp [zrep] at h
 | succ n ih =>
   intro i c u hc hu
   have hl : (zcells y).length = (y.zero.map Sc.val).length := by simp [zcells]
   simp only [zrep, zrepV] at hc hu
   rcases Nat.lt_or_ge i (zcells y).length with h | h
   · rw [List.getElem?_append_left h] at hc
     rw [List.getElem?_append_left (hl ▸ h)] at hu
     exact zero_rep y ho i c u hc hu
   · rw [List.getElem?_append_right h] at hc
     rw [List.getElem?_append_right (hl ▸ h), ← hl] at hu
     exact ih _ c u hc hu
theorem zrep_one (y : Ty) (n : Nat) : ∀ u ∈ zrepV y n, u.oneCell' = true := by
 induction n with
 | zero => intro u h; simp [zrepV] at h
 | succ n ih =>
   intro u h
   simp only [zrepV, List.mem_append] at h
   rcases h with h | h
   · exact zero_one y u h
   · exact ih u h
theorem range_zero (y : Ty) (n : Nat) (h : y.k.isAgg = true ∨ y.zero.length = 1) :
   (Array.range (n * y.zero.length)).map (y.zval.cells[· % y.zval.cells.size]!) = (zrepV y n).toArray := by
 apply Array.ext'
 apply List.ext_getElem?
 intro j
 simp only [Array.toList_map, Array.toList_range, List.getElem?_map]
 rcases Nat.lt_or_ge j (n * y.zero.length) with hj | hj
 · rw [zrepV_get y n j hj]
   have h0 : 0 < y.zero.length := by
     rcases Nat.eq_zero_or_pos y.zero.length with h0 | h0
     · rw [h0] at hj; simp at hj
     · exact h0
   have hm := Nat.mod_lt j h0
   rw [List.getElem?_range hj]
   simp only [Option.map_some, zval_cells y h]
   simp [hm]
 · rw [List.getElem?_eq_none (by simpa using hj)]
   rw [List.getElem?_eq_none (by rw [zrepV_length]; exact hj)]
   rfl
def buildSliceOp (τ : Tab) (S : St) (t : TypeId) (len : Nat) (parts : List (Nat × AV)) : Option (AV × St) :=
 match kindOf τ t with
 | .slice e => (match look e τ with
   | some y => (match okZero y && y.size != 0 with
     | true => if len * y.size ≤ 16777216 then (match fillAV (fun i => some (i * y.size, y.size)) (zrep y len) parts with
       | some cells => (match unDs cells with
         | some ds => (match chunk y.size y.k.isAgg len ds with
           | some es => some (.row S.fr y.size, S.new (.ds e y.size es))
           | none => none)
         | none => some (.own S.fr 0 len y.size none, S.new (.cs e cells)))
       | none => none) else none
     | false => none)
   | none => none)
 | _ => none
theorem buildSlice_run (hτ : TabOK P τ) (H : Rel X L w0 nt ι S a w) {t : TypeId} {len : Nat} {parts : List (Nat × AV)} {vparts : List (Nat × Value)} {z : AV} {S' : St}
   (hl : parts.length = vparts.length)
   (hp : ∀ (j : Nat) p q, parts[j]? = some p → vparts[j]? = some q → p.1 = q.1 ∧ RepV (rdOf L ι S.h w) ι p.2 q.2) (h : buildSliceOp τ S t len parts = some (z, S')) :
   ∃ v w' ι', (Instr.buildSlice t len vparts.toArray).run P w = .ok v w' ∧ Rel X L w0 nt ι' S' a w' ∧ RepV (rdOf L ι' S'.h w') ι' z v := by
 unfold buildSliceOp at h
 split at h
 · rename_i e hk
   obtain ⟨d, ti, yt, _, _, hu, _, _, hk'⟩ := kindOf_run hτ hk (fun _ _ => trivial) (by simp)
   simp only [TK.ok] at hk'
   subst hk'
   split at h
   · rename_i y hy
     obtain ⟨de, ie, hue, hie, hse, hbe, hze, hzl, hke, hzok, _⟩ := hτ.get hy
     split at h
     · rename_i hz
       simp only [Bool.and_eq_true, bne_iff_ne, ne_eq] at hz
       have hzo := okZero_or hz.1
       split at h
       · rename_i hle
         split at h
         · rename_i cells hcells
           obtain ⟨vout, ho1, ho2, ho3, ho4⟩ := fill_run (R := rdOf L ι S.h w) (ι := ι) hl hp (zrep_length y len) (zrep_one y len) (zrep_rep y hzok len) hcells
           have hcl : cells.length = len * y.size := by
             have : ∀ {parts : List (Nat × AV)} {cs out : List AV}, fillAV (fun i => some (i * y.size, y.size)) cs parts = some out → out.length = cs.length := by
               intro parts
               induction parts with
               | nil => intro cs out h; simp [fillAV] at h; rw [h]
               | cons p r ih =>
                 intro cs out h
                 obtain ⟨i, v⟩ := p
                 simp only [fillAV] at h
                 split at h
                 · split at h
                   · rename_i hc
                     rw [ih h]
                     simp
                     omega
                   · cases h
                 · cases h
             rw [this hcells, zrep_length, zrepV_length, hzl]
           have run : (Instr.buildSlice t len vparts.toArray).run P w = .ok (.slice (some ⟨w.heap.size, 0, none⟩) len len) (w.alloc (.cells vout.toArray e (0, 0))) := by
             have hnle : ¬ (len * y.size > 2 ^ 24) := by
               have : (2 : Nat) ^ 24 = 16777216 := by decide
               omega
             simp only [Instr.buildSlice, Sem.run_bind, run_underlying hu, Result.andThen_ok, sizeOf_run hie, hse]
             rw [if_neg hnle]
             by_cases h0 : len * y.size = 0
             · have hl0 : len = 0 := by
                 rcases Nat.mul_eq_zero.1 h0 with h | h
                 · exact h
                 · exact absurd h hz.2
               subst hl0
               simp only [h0, if_true, Sem.run_bind, Sem.run_pure, Result.andThen_ok]
               have e1 : (Array.range 0).map ((#[] : Array Value)[· % (#[] : Array Value).size]!) = (zrepV y 0).toArray := by simp [zrepV]
               rw [e1, ho1]
               simp only [Sem.run_bind, newRow, newObj]
               rfl
             · rw [if_neg h0]
               have e1 := range_zero y len hzo
               rw [hzl] at e1
               simp only [Sem.run_bind, zeroValue, typeInfo, run_program, hie, Sem.run_pure, Result.andThen_ok, hze, e1, ho1, newRow, newObj]
               rfl
           split at h
           · rename_i ds hds
             split at h
             · rename_i es hes
               simp only [Option.some.injEq, Prod.mk.injEq] at h
               obtain ⟨rfl, rfl⟩ := h
               have hcd := unDs_some hds
               obtain ⟨c1, c2, c3⟩ := chunk_spec (k := y.size) (ag := y.k.isAgg) (hzo.imp_right fun h => hzl ▸ h) (by rw [← hcl, hcd]; simp) hes
               obtain ⟨h1, h2, h3⟩ := H.alloc (B := .ds e y.size es) (o := .cells vout.toArray e (0, 0)) (cap := len) (len := len)
                 (fun R' ι' w' hR hι hi hb => .ds e y.size es w.heap.size len vout (by rw [c1]; exact hi) (.of hb) (by omega) (by omega)
                   (by simp only [maxLen]; have := Nat.le_mul_of_pos_right len (Nat.pos_of_ne_zero hz.2); omega) (Nat.pos_of_ne_zero hz.2) c2
                   (fun u hu => ho3 u (List.mem_of_mem_take hu))
                   (fun i x j c v hx hc hv => by
                     have h5 := c3 i x j c hx hc
                     exact (rep_d (ho4 _ (.d c) v (by rw [hcd]; simp [h5]) hv)).mono hR))
               refine ⟨_, _, _, run, h1, ?_⟩
               exact .row _ _ _ _ _ (by simp [upd])
             · cases h
           · simp only [Option.some.injEq, Prod.mk.injEq] at h
             obtain ⟨rfl, rfl⟩ := h
             obtain ⟨h1, h2, h3⟩ := H.alloc (B := .cs e cells) (o := .cells vout.toArray e (0, 0)) (cap := len) (len := len)
               (fun R' ι' w' hR hι hi hb => .cs e cells _ _ _ vout hi hb ho2.symm ho3 (fun j c v hc hv => (ho4 j c v hc hv).mono hR hι))
             refine ⟨_, _, _, run, h1, ?_⟩
             have := RepV.own (R := rdOf L (upd ι S.fr (.blk w.heap.size len len)) (S.new (.cs e cells)).h (w.alloc (.cells vout.toArray e (0, 0)))) (ι := upd ι S.fr (.blk w.heap.size len len)) S.fr 0 len y.size w.heap.size len len len none (by simp [upd]) (Nat.le_refl _) (by omega) (by simp only [maxLen]; have := Nat.le_mul_of_pos_right len (Nat.pos_of_ne_zero hz.2); omega) (.inl ⟨rfl, by omega⟩)
             simpa using this
         · cases h
       · cases h
     · cases h
   · cases h
 · cases h
end
end Go.Ua
