/- The library of this claim and its walks, part 11, joined out of smaller texts. No statement stands in it. -/
import Derived.Test.YtpmpajodihpkaaaGreatDoorUaM10
set_option linter.unusedSimpArgs false
set_option linter.unusedVariables false
namespace Go.Ua
open Go
mutual
def AV.ren (r : Nat → Nat) : AV → AV
 | .d x => .d x
 | .agg cs => .agg (rens r cs)
 | .tup cs => .tup (rens r cs)
 | .ptr n i o k => .ptr (r n) i o k
 | .opt n => .opt (r n)
 | .mp n => .mp (r n)
 | .row n k => .row (r n) k
 | .own n i l k c => .own (r n) i l k c
 | .iface t x => .iface t (x.ren r)
 | .fn f a b => .fn f (rens r a) (rens r b)
 | .nul => .nul
 | .any => .any
def rens (r : Nat → Nat) : List AV → List AV
 | [] => []
 | x :: l => x.ren r :: rens r l
end
mutual
def AV.lt (m : Nat) : AV → Bool
 | .d _ => true
 | .agg cs => lts m cs
 | .tup cs => lts m cs
 | .ptr n _ _ _ => Nat.blt n m
 | .opt n => Nat.blt n m
 | .mp n => Nat.blt n m
 | .row n _ => Nat.blt n m
 | .own n _ _ _ _ => Nat.blt n m
 | .iface _ x => x.lt m
 | .fn _ a b => match lts m a with
   | true => lts m b
   | false => false
 | .nul => true
 | .any => true
def lts (m : Nat) : List AV → Bool
 | [] => true
 | x :: l => match x.lt m with
   | true => lts m l
   | false => false
end
def Blk.ren (r : Nat → Nat) : Blk → Blk
 | .cs T l => .cs T (rens r l)
 | .ds E k es => .ds E k es
 | .xs E k m es l => .xs E k m es (rens r l)
 | .mp f => .mp f
def Blk.lt (m : Nat) : Blk → Bool
 | .cs _ l => lts m l
 | .ds _ _ _ => true
 | .xs _ _ _ _ l => lts m l
 | .mp _ => true
theorem rens_get (r : Nat → Nat) : ∀ (l : List AV) (i : Nat), (rens r l)[i]? = (l[i]?).map (AV.ren r)
 | [], i => by simp [rens]
 | x :: l, 0 => by simp [rens]
 | x :: l, i + 1 => by simpa [rens] using rens_get r l i
theorem rens_length (r : Nat → Nat) : ∀ (l : List AV), (rens r l).length = l.length
 | [] => rfl
 | x :: l => by simp [rens, rens_length r l]
theorem lts_get (m : Nat) : ∀ (l : List AV) (i : Nat) (x : AV), lts m l = true → l[i]? = some x → x.lt m = true
 | [], i, x, _, h => by simp at h
 | y :: l, 0, x, h, hx => by
   simp only [lts] at h
   split at h
   · simp at hx; subst hx; assumption
   · cases h
 | y :: l, i + 1, x, h, hx => by
   simp only [lts] at h
   split at h
   · exact lts_get m l i x h (by simpa using hx)
   · cases h
theorem blt_lt {n m : Nat} (h : Nat.blt n m = true) : n < m := by
 simp only [Nat.blt, Nat.ble_eq] at h
 exact h
theorem RepV.ren_inv {R : Rd} {ι ι' : Io} {r : Nat → Nat} {m : Nat} (hι : ∀ n, n < m → ∀ p, ι (r n) = some p → ι' n = some p) :
   ∀ (x : AV) {y : AV} {v : Value}, x.lt m = true → y = x.ren r → RepV R ι y v → RepV R ι' x v := by
 intro x
 induction x using AV.rec (motive_2 := fun l => ∀ (i : Nat) (x : AV), l[i]? = some x → ∀ {y : AV} {v : Value}, x.lt m = true → y = x.ren r → RepV R ι y v → RepV R ι' x v) with
 | d x => intro y v _ h1 h2; subst h1; cases h2 with | d _ _ h => exact .d _ _ h
 | agg cs ih =>
   intro y v hlt h1 h2
   simp only [AV.ren] at h1
   subst h1
   cases h2 with
   | agg _ vs hl h1 h => exact .agg _ _ (by rw [← hl, rens_length]) h1 fun i c u hc hu => ih i c hc (lts_get m cs i c (by simpa [AV.lt] using hlt) hc) rfl (h i (c.ren r) u (by rw [rens_get, hc]; rfl) hu)
 | tup cs ih =>
   intro y v hlt h1 h2
   simp only [AV.ren] at h1
   subst h1
   cases h2 with
   | tup _ vs hl h => exact .tup _ _ (by rw [← hl, rens_length]) fun i c u hc hu => ih i c hc (lts_get m cs i c (by simpa [AV.lt] using hlt) hc) rfl (h i (c.ren r) u (by rw [rens_get, hc]; rfl) hu)
 | ptr n i o k =>
   intro y v hlt h1 h2
   simp only [AV.ren] at h1
   subst h1
   cases h2 with
   | ptr _ _ _ _ b c l h => exact .ptr _ _ _ _ _ _ _ (hι n (blt_lt hlt) _ h)
 | opt n =>
   intro y v hlt h1 h2
   simp only [AV.ren] at h1
   subst h1
   cases h2 with
   | opt _ b c l _ h hv => exact .opt _ _ _ _ _ (hι n (blt_lt hlt) _ h) hv
 | mp n =>
   intro y v hlt h1 h2
   simp only [AV.ren] at h1
   subst h1
   cases h2 with
   | mp _ b c l h => exact .mp _ _ _ _ (hι n (blt_lt hlt) _ h)
 | row n k =>
   intro y v hlt h1 h2
   simp only [AV.ren] at h1
   subst h1
   cases h2 with
   | row _ _ b c l h => exact .row _ _ _ _ _ (hι n (blt_lt hlt) _ h)
   | row0 _ _ a h => exact .row0 _ _ _ (hι n (blt_lt hlt) _ h)
 | own n i l k c =>
   intro y v hlt h1 h2
   simp only [AV.ren] at h1
   subst h1
   cases h2 with
   | own _ _ _ _ b cap mm ll _ h hl hm hx hc => exact .own _ _ _ _ _ _ _ _ _ (hι n (blt_lt hlt) _ h) hl hm hx hc
 | iface t x ih =>
   intro y v hlt h1 h2
   simp only [AV.ren] at h1
   subst h1
   cases h2 with
   | iface _ _ _ h => exact .iface _ _ _ (ih hlt rfl h)
 | fn f as bs ih1 ih2 =>
   intro y v hlt h1 h2
   simp only [AV.ren] at h1
   subst h1
   simp only [AV.lt] at hlt
   split at hlt
   · rename_i hl1
     cases h2 with
     | fn _ _ _ vs ws hl hl2 h h2 =>
       exact .fn _ _ _ _ _ (by rw [← hl, rens_length]) (by rw [← hl2, rens_length])
         (fun i c u hc hu => ih1 i c hc (lts_get m as i c hl1 hc) rfl (h i (c.ren r) u (by rw [rens_get, hc]; rfl) hu))
         (fun i c u hc hu => ih2 i c hc (lts_get m bs i c hlt hc) rfl (h2 i (c.ren r) u (by rw [rens_get, hc]; rfl) hu))
   · cases hlt
 | nul => intro y v _ h1 h2; subst h1; cases h2 with | nul a => exact .nul a
 | any => intro y v _ h1 h2; exact .any v
 | nil => rename_i h _ _ _ _ _; simp at h
 | cons x l ih1 ih2 =>
   rename_i i z h y v h1 h2 h3
   cases i with
   | zero => simp at h; subst h; exact ih1 h1 h2 h3
   | succ i => exact ih2 i z (by simpa using h) h1 h2 h3
theorem RepV.ren_to {R : Rd} {ι ι' : Io} {r : Nat → Nat} (hι : ∀ n p, ι n = some p → ι' (r n) = some p) {x : AV} {v : Value} (h : RepV R ι x v) : RepV R ι' (x.ren r) v := by
 induction h with
 | d x v h => exact .d _ _ h
 | agg cs vs hl h1 h ih =>
   refine .agg _ _ (by rw [rens_length, hl]) h1 fun i c u hc hu => ?_
   rw [rens_get, Option.map_eq_some_iff] at hc
   obtain ⟨c', hc', rfl⟩ := hc
   exact ih i c' u hc' hu
 | tup cs vs hl h ih =>
   refine .tup _ _ (by rw [rens_length, hl]) fun i c u hc hu => ?_
   rw [rens_get, Option.map_eq_some_iff] at hc
   obtain ⟨c', hc', rfl⟩ := hc
   exact ih i c' u hc' hu
 | ptr n i off k b c l h => exact .ptr _ _ _ _ _ _ _ (hι _ _ h)
 | opt n b c l v h hv => exact .opt _ _ _ _ _ (hι _ _ h) hv
 | mp n b c l h => exact .mp _ _ _ _ (hι _ _ h)
 | row n k b cap len h => exact .row _ _ _ _ _ (hι _ _ h)
 | row0 n k a h => exact .row0 _ _ _ (hι _ _ h)
 | own n i len k b cap m l c h hl hm hx hc => exact .own _ _ _ _ _ _ _ _ _ (hι _ _ h) hl hm hx hc
 | iface t x v h ih => exact .iface _ _ _ ih
 | fn f cs ds vs ws hl hl2 h h2 ih ih2 =>
   refine .fn _ _ _ _ _ (by rw [rens_length, hl]) (by rw [rens_length, hl2]) (fun i c u hc hu => ?_) (fun i c u hc hu => ?_)
   · rw [rens_get, Option.map_eq_some_iff] at hc
     obtain ⟨c', hc', rfl⟩ := hc
     exact ih i c' u hc' hu
   · rw [rens_get, Option.map_eq_some_iff] at hc
     obtain ⟨c', hc', rfl⟩ := hc
     exact ih2 i c' u hc' hu
 | nul a => exact .nul a
 | any v => exact .any v
theorem RepB.ren_inv {R : Rd} {ι ι' : Io} {w : World} {r : Nat → Nat} {m n : Nat} (hn : n < m) (hι : ∀ n, n < m → ∀ p, ι (r n) = some p → ι' n = some p) {B : Blk} (hlt : B.lt m = true)
   (h : RepB R ι w (r n) (B.ren r)) : RepB R ι' w n B := by
 cases B with
 | cs T cells =>
   simp only [Blk.ren] at h
   cases h with
   | cs _ _ b cap l cur hi hb hl h1 h =>
     exact .cs _ _ b cap l cur (hι n hn _ hi) hb (by rw [hl, rens_length]) h1 fun j c v hc hv => (h j (c.ren r) v (by rw [rens_get, hc]; rfl) hv).ren_inv hι c (lts_get m cells j c hlt hc) rfl
 | ds E k es =>
   simp only [Blk.ren] at h
   cases h with
   | ds0 _ _ hi hk0 => exact .ds0 _ _ (hι n hn _ hi) hk0
   | ds _ _ _ b cap cur hi hb hl hc hm hk0 hk h1 h => exact .ds _ _ _ b cap cur (hι n hn _ hi) hb hl hc hm hk0 hk h1 h
 | mp f =>
   simp only [Blk.ren] at h
   cases h with
   | mp _ b c l es clock hi hb hf hk => exact .mp _ b c l es clock (hι n hn _ hi) hb hf hk
 | xs E k mm es cells =>
   simp only [Blk.ren] at h
   cases h with
   | xs0 _ _ _ _ hi hk0 hkl h2 =>
     exact .xs0 _ _ _ _ (hι n hn _ hi) hk0 (by rw [← hkl, rens_length]) fun j c hc => (h2 j (c.ren r) (by rw [rens_get, hc]; rfl)).imp fun v hv => hv.ren_inv hι c (lts_get m cells j c hlt hc) rfl
   | xs _ _ _ _ _ b cap cur hi hb hl hc hm hk0 hlen hkl hk h1 h h2 =>
     exact .xs _ _ _ _ _ b cap cur (hι n hn _ hi) hb hl hc hm hk0 hlen (by rw [← hkl, rens_length]) hk h1 h fun j c v hc hv => (h2 j (c.ren r) v (by rw [rens_get, hc]; rfl) hv).ren_inv hι c (lts_get m cells j c hlt hc) rfl
theorem RepB.ren_to {R : Rd} {ι ι' : Io} {w : World} {r : Nat → Nat} {n : Nat} (hι : ∀ n p, ι n = some p → ι' (r n) = some p) {B : Blk} (h : RepB R ι w n B) : RepB R ι' w (r n) (B.ren r) := by
 cases h with
 | cs T cells b cap l cur hi hb hl h1 h =>
   refine .cs _ _ b cap l cur (hι _ _ hi) hb (by rw [hl, rens_length]) h1 fun j c v hc hv => ?_
   rw [rens_get, Option.map_eq_some_iff] at hc
   obtain ⟨c', hc', rfl⟩ := hc
   exact (h j c' v hc' hv).ren_to hι
 | ds0 E k hi hk0 => exact .ds0 _ _ (hι _ _ hi) hk0
 | ds E k es b cap cur hi hb hl hc hm hk0 hk h1 h => exact .ds _ _ _ b cap cur (hι _ _ hi) hb hl hc hm hk0 hk h1 h
 | mp f b c l es clock hi hb hf hk => exact .mp _ b c l es clock (hι _ _ hi) hb hf hk
 | xs0 E k m cells hi hk0 hkl h2 =>
   refine .xs0 _ _ _ _ (hι _ _ hi) hk0 (by rw [rens_length, hkl]) fun j c hc => ?_
   rw [rens_get, Option.map_eq_some_iff] at hc
   obtain ⟨c', hc', rfl⟩ := hc
   exact (h2 j c' hc').imp fun v hv => hv.ren_to hι
 | xs E k m es cells b cap cur hi hb hl hc hm hk0 hlen hkl hk h1 h h2 =>
   refine .xs _ _ _ _ _ b cap cur (hι _ _ hi) hb hl hc hm hk0 hlen (by rw [rens_length, hkl]) hk h1 h fun j c v hc hv => ?_
   rw [rens_get, Option.map_eq_some_iff] at hc
   obtain ⟨c', hc', rfl⟩ := hc
   exact (h2 j c' v hc' hv).ren_to hι
section
variable {X L : Nat → Prop} {w0 : W0} {w w' : World} {nt fr fr' : Nat} {ι : Io} {S : St} {a : Act} {h h' : List (Nat × Blk)}
def keeps (r : Nat → Nat) (fr' : Nat) (h h' : List (Nat × Blk)) : Prop :=
 ∀ n B, look n h' = some B → n < fr' ∧ B.lt fr' = true ∧ look (r n) h = some (B.ren r)
theorem HRel.keep (H : HRel X L w0 ι h fr w) {r : Nat → Nat} (hold : ∀ n, n < w0.fr → n < fr' ∧ r n = n) (hk : keeps r fr' h h') (hinj : ∀ n m, (look n h').isSome = true → (look m h').isSome = true → r n = r m → n = m) :
   HRel X L w0 (fun n => if n < fr' then ι (r n) else none) h' fr' w ∧
   (∀ b o v, rdOf L ι h w b o v → rdOf L (fun n => if n < fr' then ι (r n) else none) h' w b o v) ∧
   (∀ n, n < fr' → ∀ p, ι (r n) = some p → (fun n => if n < fr' then ι (r n) else none) n = some p) := by
 have hι : ∀ n, n < fr' → ∀ p, ι (r n) = some p → (fun n => if n < fr' then ι (r n) else none) n = some p := by
   intro n hn p hp
   simp only [if_pos hn, hp]
 have hsome : ∀ n, (look n h').isSome = true → (look (r n) h).isSome = true ∧ n < fr' := by
   intro n hn
   obtain ⟨B, hB⟩ := Option.isSome_iff_exists.1 hn
   obtain ⟨h1, _, h2⟩ := hk n B hB
   exact ⟨by rw [h2]; rfl, h1⟩
 have hR : ∀ b o v, rdOf L ι h w b o v → rdOf L (fun n => if n < fr' then ι (r n) else none) h' w b o v := by
   intro b o v ⟨h1, h2⟩
   refine ⟨?_, h2⟩
   rintro (h3 | ⟨n, c, l, h3, h4⟩)
   · exact h1 (.inl h3)
   · obtain ⟨h5, h6⟩ := hsome n h3
     simp only [if_pos h6] at h4
     exact h1 (.inr ⟨r n, c, l, h5, h4⟩)
 refine ⟨⟨?_, ?_, ?_, ?_, H.lb, H.kp, fun n p hn hp => hι n (hold n hn).1 p (by rw [(hold n hn).2]; exact H.old n p hn hp)⟩, hR, hι⟩
 · intro n B hB
   obtain ⟨h1, h2, h3⟩ := hk n B hB
   have := (H.hp _ _ h3).ren_inv (ι' := fun n => if n < fr' then ι (r n) else none) h1 hι h2
   exact this.mono hR (fun _ _ h => h) (fun _ _ _ _ => rfl)
 · intro n m b c l c' l' h1 h2 h3 h4
   obtain ⟨h5, h6⟩ := hsome n h1
   obtain ⟨h7, h8⟩ := hsome m h2
   simp only [if_pos h6] at h3
   simp only [if_pos h8] at h4
   exact hinj n m h1 h2 (H.inj _ _ _ _ _ _ _ h5 h7 h3 h4)
 · intro n b c l h1 h3
   obtain ⟨h5, h6⟩ := hsome n h1
   simp only [if_pos h6] at h3
   exact H.out _ _ _ _ h5 h3
 · intro n hn
   simp only [if_neg (show ¬ n < fr' by omega)]
def St.le (r : Nat → Nat) (S S' : St) : Prop :=
 (∀ t x, look t S'.t = some x → x.lt S'.fr = true ∧ (look t S.t = some (x.ren r) ∨ x = .any)) ∧ keeps r S'.fr S.h S'.h ∧
   ∀ n m, (look n S'.h).isSome = true → (look m S'.h).isSome = true → r n = r m → n = m
theorem Rel.le (H : Rel X L w0 nt ι S a w) {r : Nat → Nat} {S' : St} (hold : ∀ n, n < w0.fr → n < S'.fr ∧ r n = n) (hle : S.le r S') : ∃ ι', Rel X L w0 nt ι' S' a w := by
 obtain ⟨h1, h2, h3⟩ := hle
 obtain ⟨g1, g2, g3⟩ := H.hr.keep hold h2 h3
 refine ⟨_, g1, fun t x ht => ?_, H.sz, H.df⟩
 obtain ⟨h4, h5⟩ := h1 t x ht
 rcases h5 with h5 | rfl
 · exact ((H.tm t _ h5).ren_inv g3 x h4 rfl).mono g2 (fun _ _ h => h)
 · exact .any _
end
end Go.Ua
namespace Go.Ua
open Go
inductive KI where
 | code (c : Code)
 | blk (id : Nat)
 | ops (all rest : List Oper)
 | back (J : St → Prop)
def unw (id : Nat) : List KI → Option (List KI)
 | [] => none
 | .blk j :: k => (match Nat.beq j id with
   | true => some k
   | false => unw id k)
 | _ :: k => unw id k
class Globs (P : Program) where
 G : Nat → (List Value → Prop) → Prop
def GOK (P : Program) [Globs P] (X : Nat → Prop) (w : World) : Prop := ∀ b p, Globs.G P b p → ¬ X b ∧ ∃ cs t fz, p cs ∧ w.heap[b]? = some (.cells cs.toArray t fz)
structure Cx (P : Program) [Globs P] where
 X : Nat → Prop
 L : Nat → Prop
 w0 : W0
 nt : Nat
 gok : GOK P X w0.w
section
variable {P : Program} [Globs P] {τ : Tab} {cx : Cx P} {Q : Exit → Act → World → Prop}
def den (P : Program) [Globs P] (cx : Cx P) (Q : Exit → Act → World → Prop) : List KI → Exit → Act → World → Prop
 | [] => Q
 | .code c :: k => Exit.then (c.wp P (den P cx Q k)) (den P cx Q k)
 | .blk id :: k => Exit.inBlock id (den P cx Q k)
 | .ops all rest :: k => Exit.then (wpList P all.toArray (den P cx Q k) rest) (den P cx Q k)
 | .back J :: k => Exit.then (fun a w => ∃ S ι, J S ∧ Rel cx.X cx.L cx.w0 cx.nt ι S a w) (den P cx Q k)
def AK (P : Program) [Globs P] (cx : Cx P) (Q : Exit → Act → World → Prop) (k : List KI) (S : St) : Prop :=
 ∀ ι a w, Rel cx.X cx.L cx.w0 cx.nt ι S a w → den P cx Q k .normal a w
def AKp (P : Program) [Globs P] (cx : Cx P) (Q : Exit → Act → World → Prop) (p : List KI × St) : Prop := AK P cx Q p.1 p.2
theorem den_exit (id : Nat) : ∀ (k k' : List KI), unw id k = some k' → ∀ a w, den P cx Q k' .normal a w → den P cx Q k (.exit id) a w
 | [], k', h, a, w, hd => by simp [unw] at h
 | .code c :: k, k', h, a, w, hd => den_exit id k k' h a w hd
 | .ops all rest :: k, k', h, a, w, hd => den_exit id k k' h a w hd
 | .back J :: k, k', h, a, w, hd => den_exit id k k' h a w hd
 | .blk j :: k, k', h, a, w, hd => by
   simp only [unw] at h
   split at h
   · rename_i e
     obtain rfl := Nat.eq_of_beq_eq_true e
     obtain rfl := Option.some.inj h
     simp only [den, Exit.inBlock, if_true]
     exact hd
   · rename_i e
     have hne : ¬ id = j := fun e' => by rw [e'] at e; exact absurd e (by simp)
     simp only [den, Exit.inBlock, if_neg hne]
     exact den_exit id k k' h a w hd
theorem den_ret : ∀ (k : List KI) (a : Act) (w : World), Q .ret a w → den P cx Q k .ret a w
 | [], a, w, h => h
 | .code c :: k, a, w, h => den_ret k a w h
 | .ops all rest :: k, a, w, h => den_ret k a w h
 | .back J :: k, a, w, h => den_ret k a w h
 | .blk j :: k, a, w, h => den_ret k a w h
def guardB (all : List Oper) (S : St) (o : Oper) : Option Bool := match o.guard with
 | none => some true
 | some (j, want) => (match all[j]? with
   | some oj => (match oj.dst with
     | some d => (match look d S.t with
       | some (.d (.s (.bool b))) => (match b, want with
         | true, true => some true
         | true, false => some false
         | false, true => some false
         | false, false => some true)
       | some (.tup []) => some false
       | _ => none)
     | none => none)
   | none => none)
def asB : Option Value → Option Bool
 | some (.bool b) => some b
 | _ => none
theorem guardB_spec {X L : Nat → Prop} {w0 : W0} {w : World} {nt : Nat} {ι : Io} {S : St} {a : Act} (H : Rel X L w0 nt ι S a w) {all : List Oper} {o : Oper} {b : Bool} (h : guardB all S o = some b) :
   Region.wanted o (yielded all.toArray a.tmps) = b := by
 unfold guardB at h
 unfold Region.wanted
 split at h
 · rename_i hg
   rw [hg]
   exact Option.some.inj h
 · rename_i j want hg
   rw [hg]
   simp only
   split at h
   · rename_i oj hj
     split at h
     · rename_i d hd
       have hy : yielded all.toArray a.tmps j = asB a.tmps[d]? := by
         unfold yielded
         have : ((all.toArray[j]?).bind (·.dst)).bind (a.tmps[·]?) = a.tmps[d]? := by
           simp [hj, hd]
         rw [this]
         unfold asB
         rfl
       have key : ∀ {x : AV} {v : Value}, look d S.t = some x → RepV (rdOf L ι S.h w) ι x v → a.tmps.getD d undef = v → v ≠ undef → a.tmps[d]? = some v := by
         intro x v _ _ h1 h2
         rw [Array.getD_eq_getD_getElem?] at h1
         cases he : a.tmps[d]? with
         | none => rw [he] at h1; exact absurd h1.symm h2
         | some u => rw [he] at h1; simp at h1; rw [h1]
       split at h
       · rename_i b0 hl
         have hr := H.tm d _ hl
         have := rep_s hr
         rw [hy, key hl hr rfl (by rw [this]; simp [Sc.val, undef]), this]
         cases b0 <;> cases want <;> (have := Option.some.inj h; subst this; rfl)
       · rename_i hl
         have hr := H.tm d _ hl
         have hu : a.tmps.getD d undef = undef := by
           generalize a.tmps.getD d undef = v at hr
           cases hr with
           | tup _ vs hl' _ =>
             have : vs = [] := List.eq_nil_of_length_eq_zero (by simpa using hl'.symm)
             subst this
             rfl
         have hn : asB a.tmps[d]? = none := by
           rw [Array.getD_eq_getD_getElem?] at hu
           cases he : a.tmps[d]? with
           | none => rfl
           | some u =>
             rw [he] at hu
             simp only [Option.getD_some] at hu
             subst hu
             rfl
         rw [hy, hn]
         have := Option.some.inj h
         subst this
         rfl
       · cases h
     · cases h
   · cases h
def runC (A : Ar) (τ : Tab) (nt : Nat) : Nat → List KI → St → List KI × St
 | 0, k, S => (k, S)
 | f + 1, k, S => (match k with
   | [] => ([], S)
   | .back J :: k => (.back J :: k, S)
   | .blk _ :: k => runC A τ nt f k S
   | .ops _ [] :: k => runC A τ nt f k S
   | .ops all (o :: r) :: k => (match guardB all S o with
     | some true => (match stepOp A τ nt S o with
       | some S' => runC A τ nt f (.ops all r :: k) S'
       | none => (.ops all (o :: r) :: k, S))
     | some false => (match (match o.dst with
         | some d => Nat.blt d nt
         | none => true) with
       | true => runC A τ nt f (.ops all r :: k) (S.put o.dst (.tup []))
       | false => (.ops all (o :: r) :: k, S))
     | none => (.ops all (o :: r) :: k, S))
   | .code c :: k => (match c with
     | .skip => runC A τ nt f k S
     | .seq x y => runC A τ nt f (.code x :: .code y :: k) S
     | .block id x => runC A τ nt f (.code x :: .blk id :: k) S
     | .exit id => (match unw id k with
       | some k' => runC A τ nt f k' S
       | none => (.code (.exit id) :: k, S))
     | .cond c x y => (match evl S c with
       | .d (.s (.bool b)) => (match b with
         | true => runC A τ nt f (.code x :: k) S
         | false => runC A τ nt f (.code y :: k) S)
       | _ => (.code (.cond c x y) :: k, S))
     | .region id ops false => runC A τ nt f (.ops ops.toList ops.toList :: k) S
     | .label _ => runC A τ nt f k S
     | c => (.code c :: k, S)))
theorem den_seq {x y : Code} {k : List KI} {a : Act} {w : World} (h : den P cx Q (.code x :: .code y :: k) .normal a w) : den P cx Q (.code (.seq x y) :: k) .normal a w := wp_seq h
theorem AK.step (hτ : TabOK P τ) : ∀ (f : Nat) (k : List KI) (S : St), AKp P cx Q (runC Ar.real τ cx.nt f k S) → AK P cx Q k S := by
 intro f
 induction f with
 | zero => intro k S h; exact h
 | succ f ih =>
   intro k S h
   unfold runC at h
   split at h
   · exact h
   · exact h
   · rename_i id k
     have := ih _ _ h
     intro ι a w H
     exact this ι a w H
   · rename_i all k
     have := ih _ _ h
     intro ι a w H
     exact this ι a w H
   · rename_i all o r k
     split at h
     · rename_i hg
       split at h
       · rename_i S' hS
         have := ih _ _ h
         intro ι a w H
         show wpList P all.toArray (den P cx Q k) (o :: r) a w
         unfold wpList
         rw [guardB_spec H hg, if_pos rfl]
         exact .inl (stepOp_wp hτ H hS fun ι' a' w' H' => this ι' a' w' H')
       · exact h
     · rename_i hg
       split at h
       · rename_i hd
         have := ih _ _ h
         intro ι a w H
         show wpList P all.toArray (den P cx Q k) (o :: r) a w
         unfold wpList
         rw [guardB_spec H hg, if_neg (by simp)]
         refine this ι _ w (H.put (fun n hn => ?_) ?_)
         · rw [hn] at hd
           exact blt_lt hd
         · exact .tup [] [] rfl (by simp)
       · exact h
     · exact h
   · rename_i c k
     split at h
     · have := ih _ _ h
       intro ι a w H
       exact wp_skip (this ι a w H)
     · rename_i x y
       have := ih _ _ h
       intro ι a w H
       exact den_seq (this ι a w H)
     · rename_i id x
       have := ih _ _ h
       intro ι a w H
       exact wp_block (this ι a w H)
     · rename_i id
       split at h
       · rename_i k' hk
         have := ih _ _ h
         intro ι a w H
         exact wp_exit (den_exit id k k' hk a w (this ι a w H))
       · exact h
     · rename_i c x y
       split at h
       · rename_i b hc
         cases b
         · have := ih _ _ h
           intro ι a w H
           have he := H.evl c
           rw [hc] at he
           exact wp_cond (rep_s he) (this ι a w H)
         · have := ih _ _ h
           intro ι a w H
           have he := H.evl c
           rw [hc] at he
           exact wp_cond (rep_s he) (this ι a w H)
       · exact h
     · rename_i id ops
       have := ih _ _ h
       intro ι a w H
       refine wp_region_list ?_
       have := this ι a w H
       simpa [den, Exit.then] using this
     · rename_i l
       have := ih _ _ h
       intro ι a w H
       exact wp_label (this ι a w H)
     · exact h
theorem AK.run {F : Fam} (hF : F = Fam.real) (hτ : TabOK P τ) {n : Nat} (hn : cx.nt = n) {k : List KI} {S : St} (h : AKp P cx Q (runC (Ar.of F) τ n 100000 k S)) : AK P cx Q k S := by
 subst hF
 subst hn
 exact AK.step hτ _ k S h
def leT (r : Nat → Nat) (fr : Nat) (t : List (Nat × AV)) : List (Nat × AV) → Prop
 | [] => True
 | p :: l => (p.2.lt fr = true ∧ look p.1 t = some (p.2.ren r)) ∧ leT r fr t l
def leH (r : Nat → Nat) (fr : Nat) (h : List (Nat × Blk)) : List (Nat × Blk) → Prop
 | [] => True
 | p :: l => (p.1 < fr ∧ p.2.lt fr = true ∧ look (r p.1) h = some (p.2.ren r)) ∧ leH r fr h l
theorem leT_get {r : Nat → Nat} {fr : Nat} {t : List (Nat × AV)} : ∀ {l : List (Nat × AV)}, leT r fr t l → ∀ i x, look i l = some x → x.lt fr = true ∧ look i t = some (x.ren r)
 | [], _, i, x, h => by simp [look] at h
 | p :: l, H, i, x, h => by
   rw [look_cons] at h
   split at h
   · rename_i e
     obtain rfl := Option.some.inj h
     subst e
     exact H.1
   · exact leT_get H.2 i x h
theorem leH_get {r : Nat → Nat} {fr : Nat} {t : List (Nat × Blk)} : ∀ {l : List (Nat × Blk)}, leH r fr t l → keeps r fr t l
 | [], _, i, x, h => by simp [look] at h
 | p :: l, H, i, x, h => by
   rw [look_cons] at h
   split at h
   · rename_i e
     obtain rfl := Option.some.inj h
     subst e
     exact H.1
   · exact leH_get H.2 i x h
theorem St.le_of {r : Nat → Nat} {S S' : St} (h1 : leT r S'.fr S.t S'.t) (h2 : leH r S'.fr S.h S'.h)
   (h3 : ∀ n m, (look n S'.h).isSome = true → (look m S'.h).isSome = true → r n = r m → n = m) : S.le r S' :=
 ⟨fun t x ht => ⟨(leT_get h1 t x ht).1, .inl (leT_get h1 t x ht).2⟩, leH_get h2, h3⟩
def leT0 (fr : Nat) (t : List (Nat × AV)) : List (Nat × AV) → Prop
 | [] => True
 | p :: l => (look p.1 t = some p.2 ∧ p.2.lt fr = true) ∧ leT0 fr t l
def leH0 (fr : Nat) (h : List (Nat × Blk)) : List (Nat × Blk) → Prop
 | [] => True
 | p :: l => (look p.1 h = some p.2 ∧ p.2.lt fr = true ∧ Nat.blt p.1 fr = true) ∧ leH0 fr h l
mutual
theorem ren_id : ∀ x : AV, x.ren id = x
 | .d x => rfl
 | .agg cs => by simp only [AV.ren, rens_id cs]
 | .tup cs => by simp only [AV.ren, rens_id cs]
 | .ptr n i o k => rfl
 | .opt n => rfl
 | .mp n => rfl
 | .row n k => rfl
 | .own n i l k c => rfl
 | .iface t x => by simp only [AV.ren, ren_id x]
 | .fn f a b => by simp only [AV.ren, rens_id a, rens_id b]
 | .nul => rfl
 | .any => rfl
theorem rens_id : ∀ l : List AV, rens id l = l
 | [] => rfl
 | x :: l => by simp only [rens, ren_id x, rens_id l]
end
theorem bren_id (B : Blk) : B.ren id = B := by cases B <;> simp [Blk.ren, rens_id]
theorem St.le0 {S S' : St} (h1 : leT0 S'.fr S.t S'.t) (h2 : leH0 S'.fr S.h S'.h) : S.le id S' := by
 refine St.le_of ?_ ?_ (fun n m _ _ h => h)
 · have : ∀ l, leT0 S'.fr S.t l → leT id S'.fr S.t l := by
     intro l
     induction l with
     | nil => intro _; trivial
     | cons p l ih => intro h; exact ⟨⟨h.1.2, by rw [ren_id]; exact h.1.1⟩, ih h.2⟩
   exact this _ h1
 · have : ∀ l, leH0 S'.fr S.h l → leH id S'.fr S.h l := by
     intro l
     induction l with
     | nil => intro _; trivial
     | cons p l ih => intro h; exact ⟨⟨blt_lt h.1.2.2, h.1.2.1, by rw [bren_id]; exact h.1.1⟩, ih h.2⟩
   exact this _ h2
theorem AK.keep {k : List KI} {S : St} (S' : St) (h0 : cx.w0.fr = 0) (h1 : leT0 S'.fr S.t S'.t) (h2 : leH0 S'.fr S.h S'.h) (h : AK P cx Q k S') : AK P cx Q k S := by
 intro ι a w H
 obtain ⟨ι', H'⟩ := H.le (fun n hn => by omega) (St.le0 h1 h2)
 exact h ι' a w H'
theorem AK.again {k : List KI} {S : St} (S' : St) {J : St → Prop} (h0 : cx.w0.fr = 0) (h1 : leT0 S'.fr S.t S'.t) (h2 : leH0 S'.fr S.h S'.h) (h : J S') : AK P cx Q (.back J :: k) S := by
 intro ι a w H
 obtain ⟨ι', H'⟩ := H.le (fun n hn => by omega) (St.le0 h1 h2)
 exact ⟨S', ι', h, H'⟩
theorem AK.weaken {k : List KI} {S S' : St} (r : Nat → Nat) (hold : ∀ n, n < cx.w0.fr → n < S'.fr ∧ r n = n) (hle : S.le r S') (h : AK P cx Q k S') : AK P cx Q k S := by
 intro ι a w H
 obtain ⟨ι', H'⟩ := H.le hold hle
 exact h ι' a w H'
theorem AK.back {k : List KI} {S S' : St} {J : St → Prop} (r : Nat → Nat) (hold : ∀ n, n < cx.w0.fr → n < S'.fr ∧ r n = n) (hle : S.le r S') (h : J S') : AK P cx Q (.back J :: k) S := by
 intro ι a w H
 obtain ⟨ι', H'⟩ := H.le hold hle
 exact ⟨S', ι', h, H'⟩
theorem AK.loop {k : List KI} {S : St} {c : Code} (I : Nat → St → Prop) (n : Nat) (h0 : I n S)
   (round : ∀ n S, I n S → AK P cx Q (.code c :: .back (fun S' => ∃ m, m < n ∧ I m S') :: k) S) : AK P cx Q (.code (.loop c) :: k) S := by
 intro ι a w H
 refine wp_loop_ghost (fun n a w => ∃ S ι, I n S ∧ Rel cx.X cx.L cx.w0 cx.nt ι S a w) n ⟨S, ι, h0, H⟩ ?_
 rintro n a w ⟨S, ι, hI, H⟩
 have := round n S hI ι a w H
 refine wp_mono this ?_
 intro e a' w' hq
 cases e with
 | normal =>
   obtain ⟨S', ι', ⟨m, hm, hI'⟩, H'⟩ := hq
   exact ⟨m, hm, S', ι', hI', H'⟩
 | exit id => exact hq
 | goto l => exact hq
 | ret => exact hq
 | panic ch => exact hq
 | outgrown => exact hq
theorem AK.ret {k : List KI} {S : St} (h : ∀ ι a w, Rel cx.X cx.L cx.w0 cx.nt ι S a w → Q .ret a w) : AK P cx Q (.code .ret :: k) S := by
 intro ι a w H
 exact wp_ret (den_ret k a w (h ι a w H))
theorem AK.end {S : St} (h : ∀ ι a w, Rel cx.X cx.L cx.w0 cx.nt ι S a w → Q .normal a w) : AK P cx Q [] S := fun ι a w H => h ι a w H
theorem AKp.keep {k : List KI} {S : St} (S' : St) (h0 : cx.w0.fr = 0) (h1 : leT0 S'.fr S.t S'.t) (h2 : leH0 S'.fr S.h S'.h) (h : AK P cx Q k S') : AKp P cx Q (k, S) := AK.keep S' h0 h1 h2 h
theorem AKp.again {k : List KI} {S : St} (S' : St) {J : St → Prop} (h0 : cx.w0.fr = 0) (h1 : leT0 S'.fr S.t S'.t) (h2 : leH0 S'.fr S.h S'.h) (h : J S') : AKp P cx Q (.back J :: k, S) := AK.again S' h0 h1 h2 h
theorem AKp.loop {k : List KI} {S : St} {c : Code} (S' : St) (h0 : cx.w0.fr = 0) (h1 : leT0 S'.fr S.t S'.t) (h2 : leH0 S'.fr S.h S'.h) (I : Nat → St → Prop) (n : Nat) (hI : I n S')
   (round : ∀ n S, I n S → AK P cx Q (.code c :: .back (fun S' => ∃ m, m < n ∧ I m S') :: k) S) : AKp P cx Q (.code (.loop c) :: k, S) :=
 AK.keep S' h0 h1 h2 (AK.loop I n hI round)
end
end Go.Ua
