/- The library of this claim and its walks, part 14, joined out of smaller texts. No statement stands in it. -/
import Derived.Test.YtpmpajodihpkaaaGreatDoorUaM13
set_option linter.unusedSimpArgs false
set_option linter.unusedVariables false
namespace Go.Ua
open Go Go.Proofs
theorem lts_of {m : Nat} : ∀ {l : List AV}, (∀ (i : Nat) (c : AV), l[i]? = some c → c.lt m = true) → lts m l = true
 | [], _ => rfl
 | x :: l, h => by
   simp only [lts]
   rw [h 0 x rfl]
   exact lts_of fun i c hc => h (i + 1) c (by simpa using hc)
theorem get_of_len {α β : Type} {l : List α} {r : List β} (h : l.length = r.length) {i : Nat} {x : α} (hx : l[i]? = some x) : ∃ y, r[i]? = some y := by
 have := (List.getElem?_eq_some_iff.1 hx).1
 exact ⟨r[i], List.getElem?_eq_getElem (by omega)⟩
theorem blt_of {a b : Nat} (h : a < b) : Nat.blt a b = true := by
 simp only [Nat.blt, Nat.ble_eq]; exact h
section
variable {X L : Nat → Prop} {w0 : W0} {w w' : World} {nt : Nat} {ι : Io} {S : St} {a : Act} {P : Program} {τ : Tab} {R : Rd}
theorem RepV.lt_of {fr : Nat} (hf : ∀ n, fr ≤ n → ι n = none) {x : AV} {v : Value} (h : RepV R ι x v) : x.lt fr = true := by
 have key : ∀ {n : Nat} {p : Loc}, ι n = some p → Nat.blt n fr = true := by
   intro n p hp
   rcases Nat.lt_or_ge n fr with h1 | h1
   · exact blt_of h1
   · rw [hf n h1] at hp; cases hp
 induction h with
 | d => rfl
 | agg cs vs hl h1 h ih =>
   exact lts_of fun i c hc => by obtain ⟨v, hv⟩ := get_of_len hl hc; exact ih i c v hc hv
 | tup cs vs hl h ih =>
   exact lts_of fun i c hc => by obtain ⟨v, hv⟩ := get_of_len hl hc; exact ih i c v hc hv
 | ptr n i off k b c l h => exact key h
 | opt n b c l v h hv => exact key h
 | mp n b c l h => exact key h
 | row n k b cap len h => exact key h
 | row0 n k a h => exact key h
 | own n i len k b cap m l c h hl hm hc => exact key h
 | iface t x v h ih => exact ih
 | fn f cs ds vs ws hl hl2 h h2 ih ih2 =>
   have h3 : lts fr cs = true := lts_of fun i c hc => by obtain ⟨v, hv⟩ := get_of_len hl hc; exact ih i c v hc hv
   have h4 : lts fr ds = true := lts_of fun i c hc => by obtain ⟨v, hv⟩ := get_of_len hl2 hc; exact ih2 i c v hc hv
   simp only [AV.lt, h3, h4]
 | nul => rfl
 | any => rfl
theorem RepB.lt_of {fr : Nat} (hf : ∀ n, fr ≤ n → ι n = none) {n : Nat} {B : Blk} (h : RepB R ι w n B) : n < fr ∧ B.lt fr = true := by
 have key : ∀ {n : Nat} {p : Loc}, ι n = some p → n < fr := by
   intro n p hp
   rcases Nat.lt_or_ge n fr with h1 | h1
   · exact h1
   · rw [hf n h1] at hp; cases hp
 cases h with
 | cs T cells b cap l cur hi hb hl h1 h =>
   exact ⟨key hi, lts_of fun i c hc => by obtain ⟨v, hv⟩ := get_of_len hl.symm hc; exact (h i c v hc hv).lt_of hf⟩
 | ds0 E k hi hk0 => exact ⟨key hi, rfl⟩
 | mp f b c l es clock hi => exact ⟨key hi, rfl⟩
 | ds E k es b cap cur hi hb hl hc hm hk0 hk h1 h => exact ⟨key hi, rfl⟩
 | xs0 E k m cells hi hk0 hkl h2 =>
   exact ⟨key hi, lts_of fun i c hc => by obtain ⟨v, hv⟩ := h2 i c hc; exact hv.lt_of hf⟩
 | xs E k m es cells b cap cur hi hb hl hc hm hk0 hlen hkl hk h1 h h2 =>
   refine ⟨key hi, lts_of fun i c hc' => ?_⟩
   have hil := (List.getElem?_eq_some_iff.1 hc').1
   have hle : m * k + k ≤ cur.length := by
     have : (m + 1) * k ≤ cap * k := Nat.mul_le_mul_right k (by omega)
     rw [Nat.add_mul, Nat.one_mul] at this
     omega
   exact (h2 i c _ hc' (List.getElem?_eq_getElem (by omega))).lt_of hf
theorem bad_del {n b : Nat} {h : List (Nat × Blk)} (hb : bad L ι (del n h) b) : bad L ι h b := by
 rcases hb with h1 | ⟨m, c, l, h1, h2⟩
 · exact .inl h1
 · refine .inr ⟨m, c, l, ?_, h2⟩
   rw [look_del] at h1
   split at h1
   · cases h1
   · exact h1
theorem HRel.forget {h : List (Nat × Blk)} {fr : Nat} (H : HRel X L w0 ι h fr w) (n : Nat) :
   HRel X L w0 ι (del n h) fr w ∧ ∀ b o v, rdOf L ι h w b o v → rdOf L ι (del n h) w b o v := by
 have hR : ∀ b o v, rdOf L ι h w b o v → rdOf L ι (del n h) w b o v := fun b o v ⟨h1, h2⟩ => ⟨fun h3 => h1 (bad_del h3), h2⟩
 have sub : ∀ {m : Nat} {B : Blk}, look m (del n h) = some B → look m h = some B := by
   intro m B hm
   rw [look_del] at hm
   split at hm
   · cases hm
   · exact hm
 have sub' : ∀ {m : Nat}, (look m (del n h)).isSome = true → (look m h).isSome = true := by
   intro m hm
   obtain ⟨B, hB⟩ := Option.isSome_iff_exists.1 hm
   rw [sub hB]; rfl
 exact ⟨⟨fun m B hm => (H.hp m B (sub hm)).mono hR (fun _ _ h => h) (fun _ _ _ _ => rfl), fun n m b c l c' l' h1 h2 => H.inj n m b c l c' l' (sub' h1) (sub' h2), fun n b c l h1 => H.out n b c l (sub' h1),
   H.fresh, H.lb, H.kp, H.old⟩, hR⟩
theorem Rel.forget (H : Rel X L w0 nt ι S a w) (n : Nat) : Rel X L w0 nt ι ⟨S.t, del n S.h, S.fr⟩ a w :=
 ⟨(H.hr.forget n).1, fun t x ht => (H.tm t x ht).mono (H.hr.forget n).2 (fun _ _ h => h), H.sz, H.df⟩
theorem HRel.view {h : List (Nat × Blk)} {fr : Nat} (H : HRel X L w0 ι h fr w) {n k k' : Nat} {E : TypeId} {es : List Dat} (hb : look n h = some (.ds E k es)) {v : Value} {R : Rd} (hv : RepV R ι (.row n k') v) :
   RepD (rdOf L ι (del n h) w) (.view k es) v := by
 have hB := H.hp n _ hb
 cases hv with
 | row _ _ b cap len hi =>
   cases hB with
   | ds0 _ _ hi' => rw [hi] at hi'; cases hi'
   | ds _ _ _ b' cap' cur hi' hbk hl hc hm hk0 hk h1 h2 =>
     obtain ⟨fz, hbk, _⟩ := hbk
     rw [hi] at hi'
     cases hi'
     have hcell : ∀ (i : Nat) (e : Dat) (j : Nat) (c : Dat), es[i]? = some e → e.cells[j]? = some c → ∃ u, cur[i * k + j]? = some u ∧ i * k + j < es.length * k := by
       intro i e j c he hc'
       have hil := (List.getElem?_eq_some_iff.1 he).1
       have hjl := (List.getElem?_eq_some_iff.1 hc').1
       rw [hk i e he] at hjl
       have h3 : (i + 1) * k ≤ es.length * k := Nat.mul_le_mul_right k hil
       rw [Nat.add_mul, Nat.one_mul] at h3
       have h4 : es.length * k ≤ cap * k := Nat.mul_le_mul_right k hc
       exact ⟨cur[i * k + j], List.getElem?_eq_getElem (by omega), by omega⟩
     refine RepD.view k es ⟨b, 0, none⟩ cap (fun i j => (cur[i * k + j]?).getD undef) hc hm (fun _ => rfl) hk ?_ ?_
     · intro i e j c he hc'
       obtain ⟨u, hu, hlt⟩ := hcell i e j c he hc'
       refine ⟨?_, ?_, ?_⟩
       · rintro (h3 | ⟨m, c', l', h3, h4⟩)
         · exact (H.out n b cap es.length (by rw [hb]; rfl) hi).1 h3
         · have hmn : m ≠ n := by
             intro e
             subst e
             rw [look_del] at h3
             simp at h3
           have h3' : (look m h).isSome = true := by
             rw [look_del, if_neg hmn] at h3
             exact h3
           exact hmn (H.inj m n b c' l' cap es.length h3' (by rw [hb]; rfl) h4 hi)
       · show w.cell? ⟨b, 0 + i * k + j, none⟩ = _
         rw [cell_of_row w b _ _ _ _ hbk]
         simp [hu]
       · simp only [hu, Option.getD_some]
         refine h1 u (List.mem_iff_getElem?.2 ⟨i * k + j, ?_⟩)
         rw [List.getElem?_take, if_pos hlt]
         exact hu
     · intro i e j c he hc'
       obtain ⟨u, hu, _⟩ := hcell i e j c he hc'
       simp only [hu, Option.getD_some]
       exact (h2 i e j c u he hc' hu).mono (H.forget n).2
 | row0 _ _ ad hi =>
   cases hB with
   | ds0 _ _ hi' =>
     cases ad with
     | none => exact .nil k
     | some ad => exact .view k [] ad 0 (fun _ _ => undef) (by simp) (Nat.zero_le _) (by simp) (by simp) (by simp) (by simp)
   | ds _ _ _ b' cap' cur hi' hbk hl hc hm hk0 hk h1 h2 => rw [hi] at hi'; cases hi'
theorem Rel.unname (H : Rel X L w0 nt ι S a w) {t : List (Nat × AV)} {h : List (Nat × Blk)} {fr : Nat} (ht : ∀ i x, look i t = some x → look i S.t = some x ∧ x.lt fr = true)
   (hh : ∀ n B, look n h = some B → look n S.h = some B ∧ n < fr ∧ B.lt fr = true) (h0 : w0.fr ≤ fr) : ∃ ι', Rel X L w0 nt ι' ⟨t, h, fr⟩ a w := by
 refine H.le (r := id) (fun n hn => ⟨Nat.lt_of_lt_of_le hn h0, rfl⟩) ⟨fun i x hx => ⟨(ht i x hx).2, .inl ?_⟩, fun n B hn => ?_, fun n m _ _ h => h⟩
 · rw [ren_id]; exact (ht i x hx).1
 · rw [bren_id]
   obtain ⟨h1, h2, h3⟩ := hh n B hn
   exact ⟨h2, h3, h1⟩
mutual
def frz (g : AV → AV) : AV → AV
 | .agg cs => mkAgg (frzs g cs)
 | .tup cs => .tup (frzs g cs)
 | .row m k => g (.row m k)
 | .ptr m i o k => g (.ptr m i o k)
 | .iface t x => (match frz g x with
   | .d y => .d (.iface t y)
   | y => .iface t y)
 | .fn f a b => .fn f (frzs g a) (frzs g b)
 | x => x
def frzs (g : AV → AV) : List AV → List AV
 | [] => []
 | x :: l => frz g x :: frzs g l
end
theorem frzs_get (g : AV → AV) : ∀ (l : List AV) (i : Nat), (frzs g l)[i]? = (l[i]?).map (frz g)
 | [], i => by simp [frzs]
 | x :: l, 0 => by simp [frzs]
 | x :: l, i + 1 => by simpa [frzs] using frzs_get g l i
theorem frzs_length (g : AV → AV) : ∀ (l : List AV), (frzs g l).length = l.length
 | [] => rfl
 | x :: l => by simp [frzs, frzs_length g l]
theorem frz_rep {R R' : Rd} {g : AV → AV} (hR : ∀ b o v, R b o v → R' b o v) (hg : ∀ x v, RepV R ι x v → RepV R' ι (g x) v) {x : AV} {v : Value} (h : RepV R ι x v) : RepV R' ι (frz g x) v := by
 have lst : ∀ {cs : List AV} {vs : List Value}, (∀ (i : Nat) (c : AV) (v : Value), cs[i]? = some c → vs[i]? = some v → RepV R' ι (frz g c) v) →
     ∀ (i : Nat) (c : AV) (v : Value), (frzs g cs)[i]? = some c → vs[i]? = some v → RepV R' ι c v := by
   intro cs vs ih i c v hc hv
   rw [frzs_get, Option.map_eq_some_iff] at hc
   obtain ⟨c0, hc0, rfl⟩ := hc
   exact ih i c0 v hc0 hv
 induction h with
 | d x v h => exact .d _ _ (h.mono hR)
 | agg cs vs hl h1 h ih =>
   simp only [frz]
   exact mkAgg_rep (by rw [frzs_length]; exact hl) h1 (lst ih)
 | tup cs vs hl h ih =>
   simp only [frz]
   exact .tup _ _ (by rw [frzs_length]; exact hl) (lst ih)
 | ptr n i off k b c l h => simp only [frz]; exact hg _ _ (.ptr _ _ _ _ _ _ _ h)
 | opt n b c l v h hv => simp only [frz]; exact .opt _ _ _ _ _ h hv
 | mp n b c l h => simp only [frz]; exact .mp _ _ _ _ h
 | row n k b cap len h => simp only [frz]; exact hg _ _ (.row _ _ _ _ _ h)
 | row0 n k a h => simp only [frz]; exact hg _ _ (.row0 _ _ _ h)
 | own n i len k b cap m l c h hl hm hx hc => exact .own _ _ _ _ _ _ _ _ _ h hl hm hx hc
 | iface t x v h ih =>
   simp only [frz]
   split
   · rename_i y hy
     rw [hy] at ih
     cases ih with
     | d _ _ hd => exact .d _ _ (.iface t y v hd)
   · exact .iface t _ v ih
 | fn f cs ds vs ws hl hl2 h h2 ih ih2 =>
   simp only [frz]
   exact .fn _ _ _ _ _ (by rw [frzs_length]; exact hl) (by rw [frzs_length]; exact hl2) (lst ih) (lst ih2)
 | nul a => exact .nul a
 | any v => exact .any v
def frzT (g : AV → AV) : List (Nat × AV) → List (Nat × AV)
 | [] => []
 | (i, x) :: l => (i, frz g x) :: frzT g l
def frzB (g : AV → AV) : Blk → Blk
 | .cs T l => .cs T (frzs g l)
 | .ds E k es => .ds E k es
 | .xs E k m es l => .xs E k m es (frzs g l)
 | .mp f => .mp f
def frzH (n : Nat) (g : AV → AV) : List (Nat × Blk) → List (Nat × Blk)
 | [] => []
 | (i, B) :: l => (match Nat.beq i n with
   | true => frzH n g l
   | false => (i, frzB g B) :: frzH n g l)
theorem look_frzT (g : AV → AV) (i : Nat) : ∀ (t : List (Nat × AV)) (x : AV), look i (frzT g t) = some x → ∃ y, look i t = some y ∧ x = frz g y
 | [], x, h => by simp [frzT, look] at h
 | (j, y) :: t, x, h => by
   simp only [frzT, look_cons] at h
   rw [look_cons]
   split at h
   · rename_i e
     exact ⟨y, by rw [if_pos e], (Option.some.inj h).symm⟩
   · rename_i e
     obtain ⟨y', h1, h2⟩ := look_frzT g i t x h
     exact ⟨y', by rw [if_neg e]; exact h1, h2⟩
theorem look_frzH (n : Nat) (g : AV → AV) (i : Nat) : ∀ (h : List (Nat × Blk)) (B : Blk), look i (frzH n g h) = some B → i ≠ n ∧ ∃ B0, look i h = some B0 ∧ B = frzB g B0
 | [], x, h => by simp [frzH, look] at h
 | (j, y) :: t, x, h => by
   simp only [frzH] at h
   split at h
   · rename_i e
     obtain rfl := Nat.eq_of_beq_eq_true e
     obtain ⟨h1, B0, h2, h3⟩ := look_frzH j g i t x h
     exact ⟨h1, B0, by rw [look_cons, if_neg (fun e => h1 e.symm)]; exact h2, h3⟩
   · rename_i e
     rw [look_cons] at h
     split at h
     · rename_i e2
       have e3 : j = i := e2
       refine ⟨fun e4 => ?_, y, by rw [look_cons, if_pos e2], (Option.some.inj h).symm⟩
       rw [e3, e4] at e
       simp at e
     · rename_i e2
       obtain ⟨h1, B0, h2, h3⟩ := look_frzH n g i t x h
       exact ⟨h1, B0, by rw [look_cons, if_neg e2]; exact h2, h3⟩
theorem Rel.frz (H : Rel X L w0 nt ι S a w) (n : Nat) (g : AV → AV) (hg : ∀ x v, RepV (rdOf L ι S.h w) ι x v → RepV (rdOf L ι (del n S.h) w) ι (g x) v) :
   Rel X L w0 nt ι ⟨frzT g S.t, frzH n g S.h, S.fr⟩ a w := by
 obtain ⟨h1, hR⟩ := H.hr.forget n
 have sub : ∀ {m : Nat} {B : Blk}, look m (frzH n g S.h) = some B → ∃ B0, look m (del n S.h) = some B0 ∧ B = frzB g B0 := by
   intro m B hm
   obtain ⟨h2, B0, h3, h4⟩ := look_frzH n g m _ _ hm
   exact ⟨B0, by rw [look_del, if_neg h2]; exact h3, h4⟩
 have sub' : ∀ {m : Nat}, (look m (frzH n g S.h)).isSome = true → (look m (del n S.h)).isSome = true := by
   intro m hm
   obtain ⟨B, hB⟩ := Option.isSome_iff_exists.1 hm
   obtain ⟨B0, h3, _⟩ := sub hB
   rw [h3]; rfl
 have hR2 : ∀ b o v, rdOf L ι (del n S.h) w b o v → rdOf L ι (frzH n g S.h) w b o v := by
   intro b o v ⟨h2, h3⟩
   refine ⟨?_, h3⟩
   rintro (h4 | ⟨m, c, l, h4, h5⟩)
   · exact h2 (.inl h4)
   · exact h2 (.inr ⟨m, c, l, sub' h4, h5⟩)
 have hz : ∀ x v, RepV (rdOf L ι S.h w) ι x v → RepV (rdOf L ι (frzH n g S.h) w) ι (g x) v := fun x v hv => (hg x v hv).mono hR2 (fun _ _ h => h)
 have hRR : ∀ b o v, rdOf L ι S.h w b o v → rdOf L ι (frzH n g S.h) w b o v := fun b o v h => hR2 b o v (hR b o v h)
 refine ⟨⟨fun m B hm => ?_, fun n m b c l c' l' h2 h3 => h1.inj n m b c l c' l' (sub' h2) (sub' h3), fun n b c l h2 => h1.out n b c l (sub' h2), h1.fresh, h1.lb, h1.kp, h1.old⟩, fun t x ht => ?_, H.sz, H.df⟩
 · obtain ⟨_, B0, h2, rfl⟩ := look_frzH n g m _ _ hm
   have hB := H.hr.hp m B0 h2
   cases hB with
   | cs T cells b cap l cur hi hbk hl h3 h4 =>
     refine .cs T _ b cap l cur hi hbk (by rw [frzs_length]; exact hl) h3 fun j c v hc hv => ?_
     rw [frzs_get, Option.map_eq_some_iff] at hc
     obtain ⟨c0, hc0, rfl⟩ := hc
     exact frz_rep hRR hz (h4 j c0 v hc0 hv)
   | ds0 E k hi hk0 => exact .ds0 E k hi hk0
   | mp f b c l es clock hi hb hf hk => exact .mp f b c l es clock hi hb hf hk
   | ds E k es b cap cur hi hbk hl hc hcm hk0 hk h1 h => exact .ds E k es b cap cur hi hbk hl hc hcm hk0 hk h1 fun i e j c v h2 h3 h4 => (h i e j c v h2 h3 h4).mono hRR
   | xs0 E k m cells hi hk0 hkl hx2 =>
     refine .xs0 E k m _ hi hk0 (by rw [frzs_length]; exact hkl) fun j c hc => ?_
     rw [frzs_get, Option.map_eq_some_iff] at hc
     obtain ⟨c0, hc0, rfl⟩ := hc
     exact (hx2 j c0 hc0).imp fun v hv => frz_rep hRR hz hv
   | xs E k m es cells b cap cur hi hbk hl hc hcm hk0 hlen hkl hk h1 h h3 =>
     refine .xs E k m es _ b cap cur hi hbk hl hc hcm hk0 hlen (by rw [frzs_length]; exact hkl) hk h1 (fun i e j c v h0 h2 h3 h4 => (h i e j c v h0 h2 h3 h4).mono hRR) fun j c v hc hv => ?_
     rw [frzs_get, Option.map_eq_some_iff] at hc
     obtain ⟨c0, hc0, rfl⟩ := hc
     exact frz_rep hRR hz (h3 j c0 v hc0 hv)
 · obtain ⟨y, h2, rfl⟩ := look_frzT g t _ _ ht
   exact frz_rep hRR hz (H.tm t y h2)
def gRow (n : Nat) (z : Dat) : AV → AV
 | .row m k => (match Nat.beq m n with
   | true => .d z
   | false => .row m k)
 | x => x
theorem Rel.freeze (H : Rel X L w0 nt ι S a w) {n k : Nat} {E : TypeId} {es : List Dat} (hb : look n S.h = some (.ds E k es)) :
   Rel X L w0 nt ι ⟨frzT (gRow n (.view k es)) S.t, frzH n (gRow n (.view k es)) S.h, S.fr⟩ a w := by
 refine H.frz n _ fun x v hv => ?_
 unfold gRow
 split
 · split
   · rename_i e
     obtain rfl := Nat.eq_of_beq_eq_true e
     exact .d _ _ (H.hr.view hb hv)
   · exact hv.mono (H.hr.forget n).2 (fun _ _ h => h)
 · exact hv.mono (H.hr.forget n).2 (fun _ _ h => h)
theorem HRel.box {h : List (Nat × Blk)} {fr : Nat} (H : HRel X L w0 ι h fr w) {n i o k : Nat} {T : TypeId} {cells : List AV} {cs : List Dat} (hb : look n h = some (.cs T cells)) (hc : unDs cells = some cs) {v : Value} {R : Rd}
   (hv : RepV R ι (.ptr n i o k) v) : RepD (rdOf L ι (del n h) w) (.vref (cs.drop (i * k + o))) v := by
 have hB := H.hp n _ hb
 have hcs := unDs_some hc
 cases hv with
 | ptr _ _ _ _ b c l hi =>
   cases hB with
   | cs _ _ b' cap' l' cur hi' hbk hl h1 h2 =>
     rw [hi] at hi'
     cases hi'
     have hlen : cur.length = cs.length := by rw [hl, hcs]; simp
     have hcell : ∀ (j : Nat) (c : Dat), (cs.drop (i * k + o))[j]? = some c → ∃ u, cur[i * k + o + j]? = some u ∧ cells[i * k + o + j]? = some (.d c) := by
       intro j c hj
       rw [List.getElem?_drop] at hj
       have := (List.getElem?_eq_some_iff.1 hj).1
       exact ⟨cur[i * k + o + j], List.getElem?_eq_getElem (by omega), by rw [hcs, List.getElem?_map, hj]; rfl⟩
     refine RepD.vref _ b (i * k + o) (fun j => (cur[i * k + o + j]?).getD undef) (fun j c hj => ?_) (fun j c hj => ?_)
     · obtain ⟨u, hu, _⟩ := hcell j c hj
       refine ⟨?_, ?_, ?_⟩
       · rintro (h3 | ⟨m, c', l', h3, h4⟩)
         · exact (H.out n b _ _ (by rw [hb]; rfl) hi).1 h3
         · have hmn : m ≠ n := by
             intro e
             subst e
             rw [look_del] at h3
             simp at h3
           have h3' : (look m h).isSome = true := by
             rw [look_del, if_neg hmn] at h3
             exact h3
           exact hmn (H.inj m n b _ _ _ _ h3' (by rw [hb]; rfl) h4 hi)
       · rw [cell_of_row w b _ _ _ _ hbk]
         simp [hu]
       · simp only [hu, Option.getD_some]
         exact h1 u (List.mem_iff_getElem?.2 ⟨_, hu⟩)
     · obtain ⟨u, hu, hcj⟩ := hcell j c hj
       simp only [hu, Option.getD_some]
       exact (rep_d (h2 _ _ u hcj hu)).mono (H.forget n).2
end
section
variable {P : Program} [Globs P] {τ : Tab} {cx : Cx P} {Q : Exit → Act → World → Prop}
theorem AKp.freeze {kk : List KI} {S : St} (n : Nat) {k : Nat} {E : TypeId} {es : List Dat} (hb : look n S.h = some (.ds E k es)) (h : AKp P cx Q (kk, ⟨frzT (gRow n (.view k es)) S.t, frzH n (gRow n (.view k es)) S.h, S.fr⟩)) : AKp P cx Q (kk, S) :=
 fun ι a w H => h ι a w (H.freeze hb)
def bsView (τ : Tab) (t : TypeId) (len : Nat) (parts : List (Nat × AV)) : Option (Nat × TypeId × List Dat) := match buildSliceOp τ ⟨[], [], 0⟩ t len parts with
 | some (.row _ k, ⟨_, (_, .ds e _ es) :: _, _⟩) => some (k, e, es)
 | _ => none
theorem bsView_op {t : TypeId} {len k : Nat} {parts : List (Nat × AV)} {e : TypeId} {es : List Dat} (h : bsView τ t len parts = some (k, e, es)) (S : St) :
   buildSliceOp τ S t len parts = some (.row S.fr k, S.new (.ds e k es)) := by
 unfold bsView at h
 split at h
 · rename_i x1 k' x2 x3 e' k2 es' x4 x5 heq
   simp only [Option.some.injEq, Prod.mk.injEq] at h
   obtain ⟨rfl, rfl, rfl⟩ := h
   unfold buildSliceOp at heq ⊢
   split at heq
   · rename_i e hk
     split at heq
     · rename_i y hy
       split at heq
       · rename_i hz
         split at heq
         · rename_i hle
           split at heq
           · rename_i cells hcells
             split at heq
             · rename_i ds hds
               split at heq
               · rename_i es2 hes
                 simp only [St.new, Option.some.injEq, Prod.mk.injEq, AV.row.injEq, St.mk.injEq, List.cons.injEq, Blk.ds.injEq] at heq
                 obtain ⟨⟨rfl, rfl⟩, rfl, ⟨⟨rfl, rfl, rfl, rfl⟩, rfl⟩, rfl⟩ := heq
                 first
                 | rfl
                 | simp [hk, hy, hz, hle, hcells, hds, hes]
               · cases heq
             · simp at heq
           · cases heq
         · cases heq
       · cases heq
     · cases heq
   · cases heq
 · cases h
theorem DK.view (hτ : TabOK P τ) {all r : List Oper} {id : Nat} {k : List KI} {S0 S : St} {o : Oper} {t : TypeId} {n k' : Nat} {parts : Array (Nat × Operand)} {e : TypeId} {es : List Dat} (h0 : cx.w0.fr ≤ S.fr)
   (ho : o.op = .buildSlice t n parts) (hv : bsView τ t n (evps S parts.toList) = some (k', e, es)) (hg : guardB all S o = some true) (hd : ∀ d, o.dst = some d → d < cx.nt)
   (next : DK P cx Q all id k S0 (r, S.put o.dst (.d (.view k' es)))) :
   DK P cx Q all id k S0 (o :: r, S) := by
 refine DK.snoc (.d (.view k' es)) (fun j hj => ?_) next
 intro Q' K ι S1 a w H h1 h2 h3 hK
 unfold wpOp
 rw [show all.toArray[j]? = some o by simpa using hj]
 simp only
 rw [guardB_spec H (by rw [guardB_congr h3]; exact hg), if_pos rfl]
 have ev : ∀ x, x ∈ o.op.operands.toList → evl S1 x = evl S x := fun x hx => evl_congr fun t ht => h3 t (by
   subst ht
   simp only [looksT, Oper.looksAt, List.mem_append]
   exact .inl (List.mem_filterMap.2 ⟨.tmp t, hx, rfl⟩))
 rw [ho] at ev
 have hop : effOp Ar.real τ S1 o.op = some (.row S1.fr k', S1.new (.ds e k' es)) := by
   rw [ho]
   simp only [effOp]
   rw [evps_congr (S' := S) fun p hp => ev p.2 (by simp only [Op.operands, List.mem_map]; exact ⟨p, hp, rfl⟩)]
   exact bsView_op hv S1
 obtain ⟨v, w', ι', hrun, H', hrep⟩ := effOp_run hτ H hop
 have hb : look S1.fr (S1.new (.ds e k' es)).h = some (.ds e k' es) := by simp [St.new, look_cons]
 have hview := H'.hr.view hb hrep
 have H2 := (H'.forget S1.fr).put hd (.d _ _ hview)
 have hne : K (a.put o.dst v) w' → o.wp P a w K Q' := by
   intro hk
   unfold Oper.wp
   rcases hrun with hrun | ⟨hrun, rfl⟩
   · rw [hrun]; exact hk
   · rw [hrun]; exact hk
 refine .inl (hne ?_)
 have g1 : ∀ i x, look i (S1.put o.dst (.d (.view k' es))).t = some x → look i (St.put ⟨(S1.new (.ds e k' es)).t, del S1.fr (S1.new (.ds e k' es)).h, (S1.new (.ds e k' es)).fr⟩ o.dst (.d (.view k' es))).t = some x ∧ x.lt S1.fr = true := by
   intro i x hx
   refine ⟨?_, ?_⟩
   · rw [← hx]
     cases o.dst <;> rfl
   · cases hdst : o.dst with
     | none =>
       rw [hdst] at hx
       exact (H.tm i x hx).lt_of H.hr.fresh
     | some d =>
       rw [hdst] at hx
       simp only [St.put, look_cons, look_del] at hx
       split at hx
       · obtain rfl := Option.some.inj hx; rfl
       · split at hx
         · cases hx
         · exact (H.tm i x hx).lt_of H.hr.fresh
 have g2 : ∀ n B, look n S1.h = some B → look n (St.put ⟨(S1.new (.ds e k' es)).t, del S1.fr (S1.new (.ds e k' es)).h, (S1.new (.ds e k' es)).fr⟩ o.dst (.d (.view k' es))).h = some B ∧ n < S1.fr ∧ B.lt S1.fr = true := by
   intro n B hn
   obtain ⟨h4, h5⟩ := (H.hr.hp n B hn).lt_of H.hr.fresh
   refine ⟨?_, h4, h5⟩
   have e3 : (St.put ⟨(S1.new (.ds e k' es)).t, del S1.fr (S1.new (.ds e k' es)).h, (S1.new (.ds e k' es)).fr⟩ o.dst (.d (.view k' es))).h = del S1.fr (S1.new (.ds e k' es)).h := by cases o.dst <;> rfl
   rw [e3, look_del, if_neg (by omega)]
   simp only [St.new, look_cons]
   rw [if_neg (by omega)]
   exact hn
 obtain ⟨ι2, H3⟩ := H2.unname g1 g2 (by rw [h2]; exact h0)
 refine hK ι2 _ w' ?_
 have e2 : S1.put o.dst (.d (.view k' es)) = ⟨(S1.put o.dst (.d (.view k' es))).t, S1.h, S1.fr⟩ := by cases o.dst <;> rfl
 rw [e2]
 exact H3
def runV (A : Ar) (τ : Tab) (nt : Nat) (all : List Oper) : Nat → List Oper → St → List Oper × St
 | _, [], S => ([], S)
 | j, o :: r, S => (match chkTail all j (o :: r) with
   | true => (o :: r, S)
   | false => (match (match o.dst with
       | some d => Nat.blt d nt
       | none => true), guardB all S o with
     | true, some true => (match pureOp A τ S o.op with
       | some z => runV A τ nt all (j + 1) r (S.put o.dst z)
       | none => (match o.op with
         | .buildSlice t n parts => (match bsView τ t n (evps S parts.toList) with
           | some (k, _, es) => runV A τ nt all (j + 1) r (S.put o.dst (.d (.view k es)))
           | none => (o :: r, S))
         | _ => (o :: r, S)))
     | true, some false => runV A τ nt all (j + 1) r (S.put o.dst (.tup []))
     | _, _ => (o :: r, S)))
theorem put_fr (S : St) (d : Option Nat) (z : AV) : (S.put d z).fr = S.fr := by cases d <;> rfl
theorem DK.stepV (hτ : TabOK P τ) {all : List Oper} {id : Nat} {k : List KI} {S0 : St} : ∀ (r : List Oper) (j : Nat) (S : St), cx.w0.fr ≤ S.fr → DK P cx Q all id k S0 (runV Ar.real τ cx.nt all j r S) → DK P cx Q all id k S0 (r, S)
 | [], j, S, _, h => h
 | o :: r, j, S, h0, h => by
   unfold runV at h
   split at h
   · exact h
   · split at h
     · rename_i hd hg
       split at h
       · rename_i z hz
         refine DK.snoc z (fun j hj => ?_) (DK.stepV hτ r _ _ (by rw [put_fr]; exact h0) h)
         intro Q' K ι S1 a w H h1 h2 h3 hK
         unfold wpOp
         rw [show all.toArray[j]? = some o by simpa using hj]
         simp only
         rw [guardB_spec H (by rw [guardB_congr h3]; exact hg), if_pos rfl]
         refine .inl (stepOp_wp hτ H ?_ hK)
         unfold stepOp
         rw [pureOp_looks h1 h3, hz]
         cases hdst : o.dst with
         | none => rfl
         | some d =>
           rw [hdst] at hd
           simp only at hd ⊢
           rw [hd]
       · split at h
         · rename_i t n parts ho
           split at h
           · rename_i k' e es hv
             exact DK.view hτ h0 ho hv hg (dst_lt hd) (DK.stepV hτ r _ _ (by rw [put_fr]; exact h0) h)
           · exact h
         · exact h
     · rename_i hd hg
       refine DK.snoc _ (fun j hj => ?_) (DK.stepV hτ r _ _ (by rw [put_fr]; exact h0) h)
       intro Q' K ι S1 a w H h1 h2 h3 hK
       unfold wpOp
       rw [show all.toArray[j]? = some o by simpa using hj]
       simp only
       rw [guardB_spec H (by rw [guardB_congr h3]; exact hg), if_neg (by simp)]
       exact hK ι _ w (H.put (dst_lt hd) (.tup [] [] rfl (by simp)))
     · exact h
theorem DK.runV {F : Fam} (hF : F = Fam.real) (hτ : TabOK P τ) {n : Nat} (hn : cx.nt = n) (hfr : cx.w0.fr = 0) (j : Nat) {all r : List Oper} {id : Nat} {k : List KI} {S0 S : St}
   (h : DK P cx Q all id k S0 (runV (Ar.of F) τ n all j r S)) : DK P cx Q all id k S0 (r, S) := by
 subst hF
 subst hn
 exact DK.stepV hτ r j S (by omega) h
end
end Go.Ua
namespace Go.Ua
open Go Go.Proofs
mutual
inductive LeD : Dat → Dat → Prop
 | refl (x : Dat) : LeD x x
 | nil (k : Nat) : LeD (.s .sl0) (.view k [])
 | agg {cs ds : List Dat} : LesD cs ds → LeD (.agg cs) (.agg ds)
 | view {k : Nat} {cs ds : List Dat} : LesD cs ds → LeD (.view k cs) (.view k ds)
inductive LesD : List Dat → List Dat → Prop
 | nil : LesD [] []
 | cons {x y : Dat} {cs ds : List Dat} : LeD x y → LesD cs ds → LesD (x :: cs) (y :: ds)
end
theorem LesD.get : ∀ {cs ds : List Dat}, LesD cs ds → cs.length = ds.length ∧ ∀ (i : Nat) (y : Dat), ds[i]? = some y → ∃ x, cs[i]? = some x ∧ LeD x y
 | _, _, .nil => ⟨rfl, by simp⟩
 | _, _, .cons h t => by
   obtain ⟨h1, h2⟩ := t.get
   refine ⟨by simp [h1], fun i y hy => ?_⟩
   cases i with
   | zero => simp only [List.getElem?_cons_zero, Option.some.injEq] at hy; subst hy; exact ⟨_, rfl, h⟩
   | succ i => simpa using h2 i y (by simpa using hy)
theorem LeD.cells {x y : Dat} (h : LeD x y) : x.cells.length = y.cells.length ∧ ∀ (i : Nat) (d : Dat), y.cells[i]? = some d → ∃ c, x.cells[i]? = some c ∧ LeD c d := by
 cases h with
 | refl => exact ⟨rfl, fun i d hd => ⟨d, hd, .refl d⟩⟩
 | nil k => exact ⟨rfl, fun i d hd => by
     cases i with
     | zero => simp only [Dat.cells, List.getElem?_cons_zero, Option.some.injEq] at hd; subst hd; exact ⟨_, rfl, .nil k⟩
     | succ i => simp [Dat.cells] at hd⟩
 | agg h => exact h.get
 | view h => exact ⟨rfl, fun i d hd => by
     cases i with
     | zero => simp only [Dat.cells, List.getElem?_cons_zero, Option.some.injEq] at hd; subst hd; exact ⟨_, rfl, .view h⟩
     | succ i => simp [Dat.cells] at hd⟩
theorem LeD.rep {R : Rd} {x : Dat} {v : Value} (hr : RepD R x v) : ∀ {y : Dat}, LeD x y → RepD R y v := by
 induction hr with
 | s a ho =>
   intro y h
   cases h with
   | refl => exact .s a ho
   | nil k => exact .nil k
 | agg cs vs hl h1 hh ih =>
   intro y h
   cases h with
   | refl => exact .agg cs vs hl h1 hh
   | agg h =>
     obtain ⟨g1, g2⟩ := h.get
     refine .agg _ vs (by rw [← g1]; exact hl) h1 fun i d v hd hv => ?_
     obtain ⟨c, hc, hle⟩ := g2 i d hd
     exact ih i c v hc hv hle
 | nil k =>
   intro y h
   cases h with
   | refl => exact .nil k
   | view h => cases h; exact .nil k
 | view k es a cap f hc hm hsp hk hr hh ih =>
   intro y h
   cases h with
   | refl => exact .view k es a cap f hc hm hsp hk hr hh
   | @view _ _ ds h =>
     obtain ⟨g1, g2⟩ := h.get
     rw [g1]
     refine .view k _ a cap f (by rw [← g1]; exact hc) hm (fun hne => hsp fun e => hne ?_) (fun i e he => ?_) (fun i e j c he hcj => ?_) (fun i e j c he hcj => ?_)
     · subst e
       exact List.eq_nil_of_length_eq_zero (by simpa using g1.symm)
     · obtain ⟨e0, h0, hle⟩ := g2 i e he
       rw [← hle.cells.1]
       exact hk i e0 h0
     · obtain ⟨e0, h0, hle⟩ := g2 i e he
       obtain ⟨c0, h1, _⟩ := hle.cells.2 j c hcj
       exact hr i e0 j c0 h0 h1
     · obtain ⟨e0, h0, hle⟩ := g2 i e he
       obtain ⟨c0, h1, hle1⟩ := hle.cells.2 j c hcj
       exact ih i e0 j c0 h0 h1 hle1
 | iface t x v hh ih =>
   intro y h
   cases h with
   | refl => exact .iface t x v hh
 | vref cs b o f hr hh ih =>
   intro y h
   cases h with
   | refl => exact .vref cs b o f hr hh
section
variable {P : Program} [Globs P] {τ : Tab} {cx : Cx P} {Q : Exit → Act → World → Prop}
theorem AKp.retell {kk : List KI} {S : St} (i : Nat) {x : Dat} (y : Dat) (hx : look i S.t = some (.d x)) (hle : LeD x y) (h : AKp P cx Q (kk, ⟨(i, .d y) :: del i S.t, S.h, S.fr⟩)) : AKp P cx Q (kk, S) := by
 intro ι a w H
 refine h ι a w ⟨H.hr, fun t z hz => ?_, H.sz, H.df⟩
 simp only [look_cons, look_del] at hz
 split at hz
 · rename_i e
   obtain rfl := Option.some.inj hz
   subst e
   have := H.tm _ _ hx
   cases this with
   | d _ _ hd => exact .d _ _ (LeD.rep hd hle)
 · split at hz
   · cases hz
   · exact H.tm t z hz
theorem AKp.doneX {fn : Func} {Qr : AV → List (Nat × Blk) → Nat → Prop} (hτ : TabOK P τ) {S : St} {l : List AV} {x : AV} (hres : resAV τ S fn.results.toList = some l) (hx : tupAV l = x) (hlt : x.lt 0 = true) (h0 : cx.w0.fr = 0)
   (hQ : Qr x [] 0) {k : List KI} : AKp P cx (fin P fn cx Qr) (.code .ret :: k, S) :=
 AK.ret fun ι a w H => (fin_of (cx := cx) hτ hres id (x := x) (h' := []) (fr' := 0) (by rw [ren_id]; exact hx) hlt (fun n hn => by omega) (fun n B h => by simp [look] at h) (fun n m h => by simp [look] at h) hQ ι a w H).1
end
end Go.Ua
