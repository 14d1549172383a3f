/- The operations that make or write memory. A library of this claim's own: no statement stands in it. -/
import Derived.Test.YtialapjchamkfaaDoorUaH
import Derived.Laws.CopyRow
namespace Go.Ua
open Go
set_option linter.unusedVariables false
set_option linter.unusedSimpArgs false

section
variable {X L : Nat → Prop} {w0 : W0} {w w' : World} {nt : Nat} {ι : Io} {S : St} {a : Act} {P : Program} {τ : Tab} {R : Rd}

def dels (n0 : Option Nat) (h : List (Nat × Blk)) : List (Nat × Blk) := match n0 with
  | some n => del n h
  | none => h

def upd (ι : Io) (m : Nat) (loc : Loc) : Io := fun n => if n = m then some loc else ι n

theorem look_dels {n0 : Option Nat} {h : List (Nat × Blk)} {n : Nat} {B : Blk} (hl : look n (dels n0 h) = some B) : look n h = some B ∧ n0 ≠ some n := by
  cases n0 with
  | none => exact ⟨hl, by simp⟩
  | some k =>
    simp only [dels, look_del] at hl
    split at hl
    · cases hl
    · rename_i hne
      exact ⟨hl, fun e => hne (Option.some.inj e).symm⟩

/-- One name is made, or one is written, or one takes the place of another: all else stays. -/
theorem Rel.change (H : Rel X L w0 nt ι S a w) {n0 : Option Nat} {m fr' : Nat} {loc : Loc} {B : Blk}
    (hfr : S.fr ≤ fr' ∧ m < fr')
    (hm : m = S.fr ∨ (n0 = some m ∧ ι m = some loc))
    (hheap : ∀ b, b < w.heap.size → (∀ n c l, n0 = some n → (look n S.h).isSome = true → ι n ≠ some (.blk b c l)) → w'.heap[b]? = w.heap[b]?)
    (hloc : ∀ b c l, loc = .blk b c l → w.heap.size ≤ b ∨ ∃ n c l, n0 = some n ∧ (look n S.h).isSome = true ∧ ι n = some (.blk b c l))
    (hos : w'.os = w.os) (htape : w'.tape = w.tape) (hout : w'.output = w.output) (hsize : w.heap.size ≤ w'.heap.size)
    (hB : (∀ b o v, rdOf L ι S.h w b o v → rdOf L (upd ι m loc) ((m, B) :: dels n0 S.h) w' b o v) → (∀ n p, ι n = some p → upd ι m loc n = some p) →
      RepB (rdOf L (upd ι m loc) ((m, B) :: dels n0 S.h) w') (upd ι m loc) w' m B) :
    Rel X L w0 nt (upd ι m loc) ⟨S.t, (m, B) :: dels n0 S.h, fr'⟩ a w' ∧
    (∀ b o v, rdOf L ι S.h w b o v → rdOf L (upd ι m loc) ((m, B) :: dels n0 S.h) w' b o v) ∧ (∀ n p, ι n = some p → upd ι m loc n = some p) := by
  have hι : ∀ n p, ι n = some p → upd ι m loc n = some p := by
    intro n p hp
    unfold upd
    split
    · rename_i e
      subst e
      rcases hm with e | ⟨_, e⟩
      · rw [H.hr.fresh n (by omega)] at hp; cases hp
      · rw [← hp, e]
    · exact hp
  -- which names the new heap has, and where they lie
  have names : ∀ n b c l, (look n ((m, B) :: dels n0 S.h)).isSome = true → upd ι m loc n = some (.blk b c l) →
      (n = m ∧ loc = .blk b c l) ∨ (n ≠ m ∧ (look n S.h).isSome = true ∧ n0 ≠ some n ∧ ι n = some (.blk b c l)) := by
    intro n b c l h1 h2
    unfold upd at h2
    by_cases e : n = m
    · rw [if_pos e] at h2; exact .inl ⟨e, Option.some.inj h2⟩
    · rw [if_neg e] at h2
      rw [look_cons, if_neg (fun h => e h.symm)] at h1
      obtain ⟨B', hB'⟩ := Option.isSome_iff_exists.1 h1
      obtain ⟨h3, h4⟩ := look_dels hB'
      exact .inr ⟨e, by rw [h3]; rfl, h4, h2⟩
  have lt : ∀ n b c l, (look n S.h).isSome = true → ι n = some (.blk b c l) → b < w.heap.size := by
    intro n b c l h1 h2
    obtain ⟨B', hB'⟩ := Option.isSome_iff_exists.1 h1
    exact (H.hr.hp n B' hB').lt h2
  have hs : ∀ b, b < w.heap.size → ¬ bad L ι S.h b → w'.heap[b]? = w.heap[b]? ∧ ¬ bad L (upd ι m loc) ((m, B) :: dels n0 S.h) b := by
    intro b hb hnb
    refine ⟨hheap b hb (fun n c l h1 h2 h3 => hnb (.inr ⟨n, c, l, h2, h3⟩)), ?_⟩
    rintro (h1 | ⟨n, c, l, h1, h2⟩)
    · exact hnb (.inl h1)
    · rcases names n b c l h1 h2 with ⟨rfl, h3⟩ | ⟨_, h3, _, h4⟩
      · rcases hloc b c l h3 with h4 | ⟨n', c', l', _, h5, h6⟩
        · omega
        · exact hnb (.inr ⟨n', c', l', h5, h6⟩)
      · exact hnb (.inr ⟨n, c, l, h3, h4⟩)
  have hR := rdOf_step (L := L) (ι := ι) (h := S.h) (w := w) (w' := w') (ι' := upd ι m loc) (h' := (m, B) :: dels n0 S.h) hs
  have hout' : ∀ b c l, loc = .blk b c l → ¬ L b ∧ (X b ∨ w0.w.heap.size ≤ b) := by
    intro b c l h
    rcases hloc b c l h with h1 | ⟨n, c', l', _, h2, h3⟩
    · exact ⟨fun hL => by have := H.hr.lb b hL; have := H.hr.kp.size; omega, .inr (Nat.le_trans H.hr.kp.size h1)⟩
    · exact H.hr.out n b c' l' h2 h3
  refine ⟨Rel.world H (w' := w') (h' := (m, B) :: dels n0 S.h) (fr' := fr') (ι' := upd ι m loc)
    (H.hr.step (Y := fun b => ∃ n c l, n0 = some n ∧ (look n S.h).isSome = true ∧ ι n = some (.blk b c l)) hι hs ?_ ?_ ?_ ?_ ?_ ?_) hι hs, hR, hι⟩
  · intro n B' hl
    rw [look_cons] at hl
    by_cases e : m = n
    · rw [if_pos e] at hl
      obtain rfl := Option.some.inj hl
      subst e
      exact .inr (hB hR hι)
    · rw [if_neg e] at hl
      obtain ⟨h1, h2⟩ := look_dels hl
      refine .inl ⟨h1, fun b c l h3 => hheap b (lt n b c l (by rw [h1]; rfl) h3) ?_⟩
      intro n' c' l' h4 h5 h6
      have := H.hr.inj n n' b c l c' l' (by rw [h1]; rfl) h5 h3 h6
      subst this
      exact h2 h4
  · intro n n' b c l c' l' h1 h2 h3 h4
    have own : ∀ k c l, k ≠ m → (look k S.h).isSome = true → n0 ≠ some k → ι k = some (.blk b c l) → (∃ c l, loc = .blk b c l) → False := by
      intro k c l h5 h6 h7 h8 ⟨c', l', h9⟩
      rcases hloc b c' l' h9 with h10 | ⟨q, c2, l2, h11, h12, h13⟩
      · have := lt k b c l h6 h8; omega
      · have := H.hr.inj k q b c l c2 l2 h6 h12 h8 h13
        subst this
        exact h7 h11
    rcases names n b c l h1 h3 with ⟨rfl, h5⟩ | ⟨h5, h6, h7, h8⟩ <;> rcases names n' b c' l' h2 h4 with ⟨rfl, h9⟩ | ⟨h9, h10, h11, h12⟩
    · rfl
    · exact (own n' c' l' h9 h10 h11 h12 ⟨_, _, h5⟩).elim
    · exact (own n c l h5 h6 h7 h8 ⟨_, _, h9⟩).elim
    · exact H.hr.inj n n' b c l c' l' h6 h10 h8 h12
  · intro n b c l h1 h2
    rcases names n b c l h1 h2 with ⟨rfl, h5⟩ | ⟨h5, h6, h7, h8⟩
    · exact hout' b c l h5
    · exact H.hr.out n b c l h6 h8
  · intro n hn
    unfold upd
    rw [if_neg (by omega)]
    exact H.hr.fresh n (by omega)
  · refine ⟨hos, htape, hout, hsize, fun k hk hY => hheap k hk (fun n c l h1 h2 h3 => hY ⟨n, c, l, h1, h2, h3⟩)⟩
  · rintro b ⟨n, c, l, _, h2, h3⟩
    exact (H.hr.out n b c l h2 h3).2

/-- A new block. -/
theorem Rel.alloc (H : Rel X L w0 nt ι S a w) {B : Blk} {o : Obj} {cap len : Nat}
    (hB : ∀ (R' : Rd) (ι' : Io) (w' : World), (∀ b o v, rdOf L ι S.h w b o v → R' b o v) → (∀ n p, ι n = some p → ι' n = some p) →
      ι' S.fr = some (.blk w.heap.size cap len) → w'.heap[w.heap.size]? = some o → RepB R' ι' w' S.fr B) :
    Rel X L w0 nt (upd ι S.fr (.blk w.heap.size cap len)) ⟨S.t, (S.fr, B) :: S.h, S.fr + 1⟩ a (w.alloc o) ∧
    (∀ b o' v, rdOf L ι S.h w b o' v → rdOf L (upd ι S.fr (.blk w.heap.size cap len)) ((S.fr, B) :: S.h) (w.alloc o) b o' v) ∧
    (∀ n p, ι n = some p → upd ι S.fr (.blk w.heap.size cap len) n = some p) := by
  have := H.change (w' := w.alloc o) (n0 := none) (m := S.fr) (fr' := S.fr + 1) (loc := .blk w.heap.size cap len) (B := B) ⟨by omega, by omega⟩ (.inl rfl)
    (fun b hb _ => heap_alloc_old w o b hb) (fun b c l h => by cases h; exact .inl (Nat.le_refl _)) rfl rfl rfl (by simp)
    (fun hR hι => hB _ _ _ hR hι (by simp [upd]) (heap_alloc_new w o))
  exact this

end
end Go.Ua
