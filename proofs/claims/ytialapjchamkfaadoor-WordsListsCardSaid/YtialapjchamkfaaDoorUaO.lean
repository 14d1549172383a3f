/- Names changed, names dropped. A library of this claim's own: no statement stands in it. -/
import Derived.Test.YtialapjchamkfaaDoorUaN
namespace Go.Ua
open Go
set_option linter.unusedVariables false
set_option linter.unusedSimpArgs false

mutual
/-- Other names. -/
def AV.ren (r : Nat → Nat) : AV → AV
  | .d x => .d x
  | .agg cs => .agg (rens r cs)
  | .tup cs => .tup (rens r cs)
  | .ptr n i o k => .ptr (r n) i o k
  | .row n k => .row (r n) k
  | .own n i l k c => .own (r n) i l k c
  | .iface t x => .iface t (x.ren r)
  | .fn f a b => .fn f (rens r a) (rens r b)
  | .nul => .nul
  | .any => .any
def rens (r : Nat → Nat) : List AV → List AV
  | [] => []
  | x :: l => x.ren r :: rens r l
end

mutual
/-- Are all names below a bound? -/
def AV.lt (m : Nat) : AV → Bool
  | .d _ => true
  | .agg cs => lts m cs
  | .tup cs => lts m cs
  | .ptr n _ _ _ => Nat.blt n m
  | .row n _ => Nat.blt n m
  | .own n _ _ _ _ => Nat.blt n m
  | .iface _ x => x.lt m
  | .fn _ a b => match lts m a with
    | true => lts m b
    | false => false
  | .nul => true
  | .any => true
def lts (m : Nat) : List AV → Bool
  | [] => true
  | x :: l => match x.lt m with
    | true => lts m l
    | false => false
end

def Blk.ren (r : Nat → Nat) : Blk → Blk
  | .cs T l => .cs T (rens r l)
  | .ds E k es => .ds E k es
def Blk.lt (m : Nat) : Blk → Bool
  | .cs _ l => lts m l
  | .ds _ _ _ => true

theorem rens_get (r : Nat → Nat) : ∀ (l : List AV) (i : Nat), (rens r l)[i]? = (l[i]?).map (AV.ren r)
  | [], i => by simp [rens]
  | x :: l, 0 => by simp [rens]
  | x :: l, i + 1 => by simpa [rens] using rens_get r l i
theorem rens_length (r : Nat → Nat) : ∀ (l : List AV), (rens r l).length = l.length
  | [] => rfl
  | x :: l => by simp [rens, rens_length r l]
theorem lts_get (m : Nat) : ∀ (l : List AV) (i : Nat) (x : AV), lts m l = true → l[i]? = some x → x.lt m = true
  | [], i, x, _, h => by simp at h
  | y :: l, 0, x, h, hx => by
    simp only [lts] at h
    split at h
    · simp at hx; subst hx; assumption
    · cases h
  | y :: l, i + 1, x, h, hx => by
    simp only [lts] at h
    split at h
    · exact lts_get m l i x h (by simpa using hx)
    · cases h

theorem blt_lt {n m : Nat} (h : Nat.blt n m = true) : n < m := by
  simp only [Nat.blt, Nat.ble_eq] at h
  exact h

/-- A value that stands for x under other names stands for x. -/
theorem RepV.ren_inv {R : Rd} {ι ι' : Io} {r : Nat → Nat} {m : Nat} (hι : ∀ n, n < m → ∀ p, ι (r n) = some p → ι' n = some p) :
    ∀ (x : AV) {y : AV} {v : Value}, x.lt m = true → y = x.ren r → RepV R ι y v → RepV R ι' x v := by
  intro x
  induction x using AV.rec (motive_2 := fun l => ∀ (i : Nat) (x : AV), l[i]? = some x → ∀ {y : AV} {v : Value}, x.lt m = true → y = x.ren r → RepV R ι y v → RepV R ι' x v) with
  | d x => intro y v _ h1 h2; subst h1; cases h2 with | d _ _ h => exact .d _ _ h
  | agg cs ih =>
    intro y v hlt h1 h2
    simp only [AV.ren] at h1
    subst h1
    cases h2 with
    | agg _ vs hl h1 h => exact .agg _ _ (by rw [← hl, rens_length]) h1 fun i c u hc hu => ih i c hc (lts_get m cs i c (by simpa [AV.lt] using hlt) hc) rfl (h i (c.ren r) u (by rw [rens_get, hc]; rfl) hu)
  | tup cs ih =>
    intro y v hlt h1 h2
    simp only [AV.ren] at h1
    subst h1
    cases h2 with
    | tup _ vs hl h => exact .tup _ _ (by rw [← hl, rens_length]) fun i c u hc hu => ih i c hc (lts_get m cs i c (by simpa [AV.lt] using hlt) hc) rfl (h i (c.ren r) u (by rw [rens_get, hc]; rfl) hu)
  | ptr n i o k =>
    intro y v hlt h1 h2
    simp only [AV.ren] at h1
    subst h1
    cases h2 with
    | ptr _ _ _ _ b c l h => exact .ptr _ _ _ _ _ _ _ (hι n (blt_lt hlt) _ h)
  | row n k =>
    intro y v hlt h1 h2
    simp only [AV.ren] at h1
    subst h1
    cases h2 with
    | row _ _ b c l h => exact .row _ _ _ _ _ (hι n (blt_lt hlt) _ h)
    | row0 _ _ a h => exact .row0 _ _ _ (hι n (blt_lt hlt) _ h)
  | own n i l k c =>
    intro y v hlt h1 h2
    simp only [AV.ren] at h1
    subst h1
    cases h2 with
    | own _ _ _ _ b cap mm ll _ h hl hm hx hc => exact .own _ _ _ _ _ _ _ _ _ (hι n (blt_lt hlt) _ h) hl hm hx hc
  | iface t x ih =>
    intro y v hlt h1 h2
    simp only [AV.ren] at h1
    subst h1
    cases h2 with
    | iface _ _ _ h => exact .iface _ _ _ (ih hlt rfl h)
  | fn f as bs ih1 ih2 =>
    intro y v hlt h1 h2
    simp only [AV.ren] at h1
    subst h1
    simp only [AV.lt] at hlt
    split at hlt
    · rename_i hl1
      cases h2 with
      | fn _ _ _ vs ws hl hl2 h h2 =>
        exact .fn _ _ _ _ _ (by rw [← hl, rens_length]) (by rw [← hl2, rens_length])
          (fun i c u hc hu => ih1 i c hc (lts_get m as i c hl1 hc) rfl (h i (c.ren r) u (by rw [rens_get, hc]; rfl) hu))
          (fun i c u hc hu => ih2 i c hc (lts_get m bs i c hlt hc) rfl (h2 i (c.ren r) u (by rw [rens_get, hc]; rfl) hu))
    · cases hlt
  | nul => intro y v _ h1 h2; subst h1; cases h2 with | nul a => exact .nul a
  | any => intro y v _ h1 h2; exact .any v
  | nil => rename_i h _ _ _ _ _; simp at h
  | cons x l ih1 ih2 =>
    rename_i i z h y v h1 h2 h3
    cases i with
    | zero => simp at h; subst h; exact ih1 h1 h2 h3
    | succ i => exact ih2 i z (by simpa using h) h1 h2 h3

/-- A value under one naming stands for the renamed under another. -/
theorem RepV.ren_to {R : Rd} {ι ι' : Io} {r : Nat → Nat} (hι : ∀ n p, ι n = some p → ι' (r n) = some p) {x : AV} {v : Value} (h : RepV R ι x v) : RepV R ι' (x.ren r) v := by
  induction h with
  | d x v h => exact .d _ _ h
  | agg cs vs hl h1 h ih =>
    refine .agg _ _ (by rw [rens_length, hl]) h1 fun i c u hc hu => ?_
    rw [rens_get, Option.map_eq_some_iff] at hc
    obtain ⟨c', hc', rfl⟩ := hc
    exact ih i c' u hc' hu
  | tup cs vs hl h ih =>
    refine .tup _ _ (by rw [rens_length, hl]) fun i c u hc hu => ?_
    rw [rens_get, Option.map_eq_some_iff] at hc
    obtain ⟨c', hc', rfl⟩ := hc
    exact ih i c' u hc' hu
  | ptr n i off k b c l h => exact .ptr _ _ _ _ _ _ _ (hι _ _ h)
  | row n k b cap len h => exact .row _ _ _ _ _ (hι _ _ h)
  | row0 n k a h => exact .row0 _ _ _ (hι _ _ h)
  | own n i len k b cap m l c h hl hm hx hc => exact .own _ _ _ _ _ _ _ _ _ (hι _ _ h) hl hm hx hc
  | iface t x v h ih => exact .iface _ _ _ ih
  | fn f cs ds vs ws hl hl2 h h2 ih ih2 =>
    refine .fn _ _ _ _ _ (by rw [rens_length, hl]) (by rw [rens_length, hl2]) (fun i c u hc hu => ?_) (fun i c u hc hu => ?_)
    · rw [rens_get, Option.map_eq_some_iff] at hc
      obtain ⟨c', hc', rfl⟩ := hc
      exact ih i c' u hc' hu
    · rw [rens_get, Option.map_eq_some_iff] at hc
      obtain ⟨c', hc', rfl⟩ := hc
      exact ih2 i c' u hc' hu
  | nul a => exact .nul a
  | any v => exact .any v

theorem RepB.ren_inv {R : Rd} {ι ι' : Io} {w : World} {r : Nat → Nat} {m n : Nat} (hn : n < m) (hι : ∀ n, n < m → ∀ p, ι (r n) = some p → ι' n = some p) {B : Blk} (hlt : B.lt m = true)
    (h : RepB R ι w (r n) (B.ren r)) : RepB R ι' w n B := by
  cases B with
  | cs T cells =>
    simp only [Blk.ren] at h
    cases h with
    | cs _ _ b cap l cur hi hb hl h1 h =>
      exact .cs _ _ b cap l cur (hι n hn _ hi) hb (by rw [hl, rens_length]) h1 fun j c v hc hv => (h j (c.ren r) v (by rw [rens_get, hc]; rfl) hv).ren_inv hι c (lts_get m cells j c hlt hc) rfl
  | ds E k es =>
    simp only [Blk.ren] at h
    cases h with
    | ds0 _ _ hi hk0 => exact .ds0 _ _ (hι n hn _ hi) hk0
    | ds _ _ _ b cap cur hi hb hl hc hm hk0 hk h1 h => exact .ds _ _ _ b cap cur (hι n hn _ hi) hb hl hc hm hk0 hk h1 h

theorem RepB.ren_to {R : Rd} {ι ι' : Io} {w : World} {r : Nat → Nat} {n : Nat} (hι : ∀ n p, ι n = some p → ι' (r n) = some p) {B : Blk} (h : RepB R ι w n B) : RepB R ι' w (r n) (B.ren r) := by
  cases h with
  | cs T cells b cap l cur hi hb hl h1 h =>
    refine .cs _ _ b cap l cur (hι _ _ hi) hb (by rw [hl, rens_length]) h1 fun j c v hc hv => ?_
    rw [rens_get, Option.map_eq_some_iff] at hc
    obtain ⟨c', hc', rfl⟩ := hc
    exact (h j c' v hc' hv).ren_to hι
  | ds0 E k hi hk0 => exact .ds0 _ _ (hι _ _ hi) hk0
  | ds E k es b cap cur hi hb hl hc hm hk0 hk h1 h => exact .ds _ _ _ b cap cur (hι _ _ hi) hb hl hc hm hk0 hk h1 h

section
variable {X L : Nat → Prop} {w0 : W0} {w w' : World} {nt fr fr' : Nat} {ι : Io} {S : St} {a : Act} {h h' : List (Nat × Blk)}

/-- The names that are kept, under their new numbers: all of h' are names of h, other ones each. -/
def keeps (r : Nat → Nat) (fr' : Nat) (h h' : List (Nat × Blk)) : Prop :=
  ∀ n B, look n h' = some B → n < fr' ∧ B.lt fr' = true ∧ look (r n) h = some (B.ren r)

theorem HRel.keep (H : HRel X L w0 ι h fr w) {r : Nat → Nat} (hold : ∀ n, n < w0.fr → n < fr' ∧ r n = n) (hk : keeps r fr' h h') (hinj : ∀ n m, (look n h').isSome = true → (look m h').isSome = true → r n = r m → n = m) :
    HRel X L w0 (fun n => if n < fr' then ι (r n) else none) h' fr' w ∧
    (∀ b o v, rdOf L ι h w b o v → rdOf L (fun n => if n < fr' then ι (r n) else none) h' w b o v) ∧
    (∀ n, n < fr' → ∀ p, ι (r n) = some p → (fun n => if n < fr' then ι (r n) else none) n = some p) := by
  have hι : ∀ n, n < fr' → ∀ p, ι (r n) = some p → (fun n => if n < fr' then ι (r n) else none) n = some p := by
    intro n hn p hp
    simp only [if_pos hn, hp]
  have hsome : ∀ n, (look n h').isSome = true → (look (r n) h).isSome = true ∧ n < fr' := by
    intro n hn
    obtain ⟨B, hB⟩ := Option.isSome_iff_exists.1 hn
    obtain ⟨h1, _, h2⟩ := hk n B hB
    exact ⟨by rw [h2]; rfl, h1⟩
  have hR : ∀ b o v, rdOf L ι h w b o v → rdOf L (fun n => if n < fr' then ι (r n) else none) h' w b o v := by
    intro b o v ⟨h1, h2⟩
    refine ⟨?_, h2⟩
    rintro (h3 | ⟨n, c, l, h3, h4⟩)
    · exact h1 (.inl h3)
    · obtain ⟨h5, h6⟩ := hsome n h3
      simp only [if_pos h6] at h4
      exact h1 (.inr ⟨r n, c, l, h5, h4⟩)
  refine ⟨⟨?_, ?_, ?_, ?_, H.lb, H.kp, fun n p hn hp => hι n (hold n hn).1 p (by rw [(hold n hn).2]; exact H.old n p hn hp)⟩, hR, hι⟩
  · intro n B hB
    obtain ⟨h1, h2, h3⟩ := hk n B hB
    have := (H.hp _ _ h3).ren_inv (ι' := fun n => if n < fr' then ι (r n) else none) h1 hι h2
    exact this.mono hR (fun _ _ h => h) (fun _ _ _ _ => rfl)
  · intro n m b c l c' l' h1 h2 h3 h4
    obtain ⟨h5, h6⟩ := hsome n h1
    obtain ⟨h7, h8⟩ := hsome m h2
    simp only [if_pos h6] at h3
    simp only [if_pos h8] at h4
    exact hinj n m h1 h2 (H.inj _ _ _ _ _ _ _ h5 h7 h3 h4)
  · intro n b c l h1 h3
    obtain ⟨h5, h6⟩ := hsome n h1
    simp only [if_pos h6] at h3
    exact H.out _ _ _ _ h5 h3
  · intro n hn
    simp only [if_neg (show ¬ n < fr' by omega)]

/-- What is told of a state may be told in less, under other names. -/
def St.le (r : Nat → Nat) (S S' : St) : Prop :=
  (∀ t x, look t S'.t = some x → x.lt S'.fr = true ∧ (look t S.t = some (x.ren r) ∨ x = .any)) ∧ keeps r S'.fr S.h S'.h ∧
    ∀ n m, (look n S'.h).isSome = true → (look m S'.h).isSome = true → r n = r m → n = m

theorem Rel.le (H : Rel X L w0 nt ι S a w) {r : Nat → Nat} {S' : St} (hold : ∀ n, n < w0.fr → n < S'.fr ∧ r n = n) (hle : S.le r S') : ∃ ι', Rel X L w0 nt ι' S' a w := by
  obtain ⟨h1, h2, h3⟩ := hle
  obtain ⟨g1, g2, g3⟩ := H.hr.keep hold h2 h3
  refine ⟨_, g1, fun t x ht => ?_, H.sz, H.df⟩
  obtain ⟨h4, h5⟩ := h1 t x ht
  rcases h5 with h5 | rfl
  · exact ((H.tm t _ h5).ren_inv g3 x h4 rfl).mono g2 (fun _ _ h => h)
  · exact .any _

end
end Go.Ua
