/- A call, by what the function called comes to. A library of this claim's own: no statement stands in it. -/
import Derived.Test.YtialapjchamkfaaDoorUaR
namespace Go.Ua
open Go Go.Proofs
set_option linter.unusedVariables false
set_option linter.unusedSimpArgs false
set_option linter.unusedSectionVars false

def fargs : AV → Option (FuncId × List AV × List AV)
  | .d (.s (.fn g)) => some (g, [], [])
  | .fn (.func g) fi ca => some (g, fi, ca)
  | _ => none

def app3 : List AV → List AV → List AV → List AV
  | [], xs, [] => xs
  | fi, xs, ca => fi ++ (xs ++ ca)

/-- A callee's names as the caller's: those handed in by σ, new ones behind the caller's own. -/
def shift (σ : Nat → Nat) (fr base n : Nat) : Nat := match Nat.blt n fr with
  | true => σ n
  | false => base + (n - fr)

def renH (r : Nat → Nat) : List (Nat × Blk) → List (Nat × Blk)
  | [] => []
  | (n, B) :: l => (r n, B.ren r) :: renH r l

def dropN (σ : Nat → Nat) : Nat → List (Nat × Blk) → List (Nat × Blk)
  | 0, h => h
  | n + 1, h => del (σ n) (dropN σ n h)

def appH : List (Nat × Blk) → List (Nat × Blk) → List (Nat × Blk)
  | [], b => b
  | x :: a, b => x :: appH a b

/-- The caller's state behind a call. -/
def St.after (S : St) (σ : Nat → Nat) (fr : Nat) (h' : List (Nat × Blk)) (fr' : Nat) : St :=
  ⟨S.t, appH (renH (shift σ fr S.fr) h') (dropN σ fr S.h), S.fr + (fr' - fr)⟩

theorem look_app (n : Nat) : ∀ (a b : List (Nat × Blk)), look n (appH a b) = match look n a with
    | some B => some B
    | none => look n b
  | [], b => rfl
  | p :: a, b => by
    simp only [appH, look_cons, look_app n a b]
    split <;> rfl

theorem look_dropN (σ : Nat → Nat) : ∀ (m n : Nat) (h : List (Nat × Blk)) (B : Blk), look n (dropN σ m h) = some B → look n h = some B ∧ ∀ i, i < m → σ i ≠ n
  | 0, n, h, B, hl => ⟨hl, fun i hi => absurd hi (by omega)⟩
  | m + 1, n, h, B, hl => by
    simp only [dropN, look_del] at hl
    split at hl
    · cases hl
    · rename_i hne
      obtain ⟨h1, h2⟩ := look_dropN σ m n h B hl
      refine ⟨h1, fun i hi e => ?_⟩
      rcases Nat.lt_or_ge i m with h3 | h3
      · exact h2 i h3 e
      · obtain rfl : i = m := by omega
        exact hne e.symm

theorem look_renH {r : Nat → Nat} (hr : ∀ i j, r i = r j → i = j) (n : Nat) : ∀ (h : List (Nat × Blk)) (B : Blk), look n (renH r h) = some B → ∃ m B0, r m = n ∧ look m h = some B0 ∧ B = B0.ren r
  | [], B, hl => by simp [renH, look] at hl
  | (m, B0) :: h, B, hl => by
    simp only [renH, look_cons] at hl
    split at hl
    · rename_i e
      obtain rfl := Option.some.inj hl
      exact ⟨m, B0, e, by rw [look_cons, if_pos rfl], rfl⟩
    · rename_i e
      obtain ⟨m', B', h1, h2, h3⟩ := look_renH hr n h B hl
      refine ⟨m', B', h1, ?_, h3⟩
      rw [look_cons, if_neg (fun e' => e (by have e2 : m = m' := e'; rw [e2]; exact h1))]
      exact h2

section
variable {P : Program} [Globs P] {τ : Tab} {cx : Cx P} {Q : Exit → Act → World → Prop}

theorem call_enters {a : Act} {w : World} {o : Oper} {c : Call} {fo : Operand} {g : FuncId} {fi ca : List Value} (ho : o.op = .call c) (hc : c.callee = .value fo) (he : Enters P g)
    (hf : a.eval fo = .func (.func g) fi.toArray ca.toArray) : (execOp a.eval o).run P w = .ok (.enter g (fi ++ (c.args.toList.map a.eval ++ ca)).toArray) w := by
  have e : c.args.map a.eval = (c.args.toList.map a.eval).toArray := by apply Array.ext'; simp
  simp only [execOp, ho, resolve, hc, hf, Deferred.ofValue, Sem.run_bind, Sem.run_pure, Result.andThen_ok, invoke, e]
  rw [he]
  congr 2
  apply Array.ext'
  simp

/-- An operation that enters a Go function. -/
theorem enter_wp {K : Act → World → Prop} {ι : Io} {a : Act} {w : World} {S : St} {o : Oper} {g : FuncId} {args : List AV} {h : List (Nat × Blk)} {fr : Nat} {Qc : AV → List (Nat × Blk) → Nat → Prop}
    (H : Rel cx.X cx.L cx.w0 cx.nt ι S a w)
    (spec : ASpec P g args h fr Qc) (σ : Nat → Nat) (hd : ∀ d, o.dst = some d → d < cx.nt) {vs : List Value} (hent : (execOp a.eval o).run P w = .ok (.enter g vs.toArray) w) (hvl : args.length = vs.length)
    (hvr : ∀ (i : Nat) (x : AV) (v : Value), (rens σ args)[i]? = some x → vs[i]? = some v → RepV (rdOf cx.L ι S.h w) ι x v) (hlt : lts fr args = true)
    (hall : ∀ n, n < fr → (look n h).isSome = true) (hh : ∀ n B, look n h = some B → n < fr ∧ B.lt fr = true ∧ look (σ n) S.h = some (B.ren σ))
    (hinj : ∀ n m, n < fr → m < fr → σ n = σ m → n = m)
    (next : ∀ x h' fr', Qc x h' fr' → ∀ ι' a' w', Rel cx.X cx.L cx.w0 cx.nt ι' ((S.after σ fr h' fr').put o.dst (x.ren (shift σ fr S.fr))) a' w' → K a' w') :
    o.wp P a w K Q := by
  unfold Oper.wp
  rw [hent, Oper.upon_enter]
  -- the callee's view
  let ιc : Io := fun n => if n < fr then ι (σ n) else none
  let Lc : Nat → Prop := fun b => cx.L b ∨ ∃ n c l, (look n S.h).isSome = true ∧ ι n = some (.blk b c l) ∧ ∀ m, m < fr → σ m ≠ n
  let Xc : Nat → Prop := fun b => ∃ m c l, m < fr ∧ ι (σ m) = some (.blk b c l)
  have hsome : ∀ m, m < fr → (look (σ m) S.h).isSome = true := by
    intro m hm
    obtain ⟨B, hB⟩ := Option.isSome_iff_exists.1 (hall m hm)
    rw [(hh m B hB).2.2]; rfl
  have hιc : ∀ n, n < fr → ∀ p, ι (σ n) = some p → ιc n = some p := by
    intro n hn p hp
    show (if n < fr then ι (σ n) else none) = some p
    rw [if_pos hn]; exact hp
  have hlt2 : ∀ n b c l, (look n S.h).isSome = true → ι n = some (.blk b c l) → b < w.heap.size := by
    intro n b c l h1 h2
    obtain ⟨B', hB'⟩ := Option.isSome_iff_exists.1 h1
    exact (H.hr.hp n B' hB').lt h2
  have hRc : ∀ b o v, rdOf cx.L ι S.h w b o v → rdOf Lc ιc h w b o v := by
    intro b o v ⟨h1, h2⟩
    refine ⟨?_, h2⟩
    rintro ((h3 | ⟨n, c, l, h3, h4, _⟩) | ⟨n, c, l, h3, h4⟩)
    · exact h1 (.inl h3)
    · exact h1 (.inr ⟨n, c, l, h3, h4⟩)
    · obtain ⟨B, hB⟩ := Option.isSome_iff_exists.1 h3
      have hn := (hh n B hB).1
      have h5 : ι (σ n) = some (.blk b c l) := by
        have : (if n < fr then ι (σ n) else none) = some (.blk b c l) := h4
        rwa [if_pos hn] at this
      exact h1 (.inr ⟨σ n, c, l, hsome n hn, h5⟩)
  have Hc : HRel Xc Lc ⟨w, ιc, fr⟩ ιc h fr w := by
    have blk : ∀ n b c l, (look n h).isSome = true → ιc n = some (.blk b c l) → n < fr ∧ ι (σ n) = some (.blk b c l) := by
      intro n b c l h3 h4
      obtain ⟨B, hB⟩ := Option.isSome_iff_exists.1 h3
      have hn := (hh n B hB).1
      have : (if n < fr then ι (σ n) else none) = some (.blk b c l) := h4
      rw [if_pos hn] at this
      exact ⟨hn, this⟩
    refine ⟨?_, ?_, ?_, ?_, ?_, Kept.refl _ _, fun n p _ hp => hp⟩
    · intro n B hB
      obtain ⟨h1, h2, h3⟩ := hh n B hB
      exact ((H.hr.hp _ _ h3).ren_inv h1 hιc h2).mono hRc (fun _ _ h => h) (fun _ _ _ _ => rfl)
    · intro n m b c l c' l' h1 h2 h3 h4
      obtain ⟨h5, h6⟩ := blk n b c l h1 h3
      obtain ⟨h7, h8⟩ := blk m b c' l' h2 h4
      exact hinj n m h5 h7 (H.hr.inj _ _ _ _ _ _ _ (hsome n h5) (hsome m h7) h6 h8)
    · intro n b c l h1 h3
      obtain ⟨h5, h6⟩ := blk n b c l h1 h3
      refine ⟨?_, .inl ⟨n, c, l, h5, h6⟩⟩
      rintro (h7 | ⟨n', c', l', h7, h8, h9⟩)
      · exact (H.hr.out _ _ _ _ (hsome n h5) h6).1 h7
      · exact h9 n h5 (H.hr.inj _ _ _ _ _ _ _ (hsome n h5) h7 h6 h8)
    · intro n hn
      show (if n < fr then ι (σ n) else none) = none
      rw [if_neg (by omega)]
    · rintro b (h1 | ⟨n, c, l, h1, h2, _⟩)
      · exact Nat.lt_of_lt_of_le (H.hr.lb b h1) H.hr.kp.size
      · exact hlt2 n b c l h1 h2
  have hgc : GOK P Xc w := by
    intro b pg hG
    obtain ⟨h1, cs, tg, fz, hpg, h2⟩ := cx.gok b pg hG
    have hb0 : b < cx.w0.w.heap.size := (Array.getElem?_eq_some_iff.1 h2).1
    refine ⟨?_, ?_⟩
    · rintro ⟨m, c', l', hm, hi⟩
      rcases (H.hr.out (σ m) b c' l' (hsome m hm) hi).2 with h3 | h3
      · exact h1 h3
      · omega
    · exact ⟨cs, tg, fz, hpg, by rw [H.hr.kp.block b hb0 h1]; exact h2⟩
  refine (spec.2 Xc Lc w ιc _ Hc hgc hvl ?_).mono ?_
  · intro i x v hx hv
    exact ((hvr i (x.ren σ) v (by rw [rens_get, hx]; rfl) hv).ren_inv hιc x (lts_get fr args i x hlt hx) rfl).mono hRc (fun _ _ h => h)
  -- behind the call
  rintro e w' ⟨v, x, h', fr', ι', rfl, hQ, hrep, H'⟩
  simp only
  let r' := shift σ fr S.fr
  let ιn : Io := fun n => if n < S.fr then ι n else ι' (n - S.fr + fr)
  have hιlt : ∀ n p, ι n = some p → n < S.fr := by
    intro n p hp
    rcases Nat.lt_or_ge n S.fr with h1 | h1
    · exact h1
    · rw [H.hr.fresh n h1] at hp; cases hp
  have hιn : ∀ n p, ι n = some p → ιn n = some p := by
    intro n p hp
    show (if n < S.fr then ι n else ι' (n - S.fr + fr)) = some p
    rw [if_pos (hιlt n p hp)]; exact hp
  have hσloc : ∀ m, m < fr → ∃ p, ι (σ m) = some p := by
    intro m hm
    obtain ⟨B, hB⟩ := Option.isSome_iff_exists.1 (hsome m hm)
    cases H.hr.hp _ _ hB with
    | cs _ _ _ _ _ _ hi => exact ⟨_, hi⟩
    | ds0 _ _ hi => exact ⟨_, hi⟩
    | ds _ _ _ _ _ _ hi => exact ⟨_, hi⟩
  have hσlt : ∀ m, m < fr → σ m < S.fr := fun m hm => by obtain ⟨p, hp⟩ := hσloc m hm; exact hιlt _ p hp
  have hσι : ∀ m, m < fr → ι' m = ι (σ m) := by
    intro m hm
    obtain ⟨p, hp⟩ := hσloc m hm
    rw [hp]
    exact H'.old m p hm (hιc m hm p hp)
  have hr1 : ∀ n, n < fr → r' n = σ n := by
    intro n hn
    show shift σ fr S.fr n = σ n
    unfold shift
    have : Nat.blt n fr = true := by simp only [Nat.blt, Nat.ble_eq]; exact hn
    rw [this]
  have hr2 : ∀ n, fr ≤ n → r' n = S.fr + (n - fr) := by
    intro n hn
    show shift σ fr S.fr n = _
    unfold shift
    have : Nat.blt n fr = false := by
      cases hb : Nat.blt n fr
      · rfl
      · exact absurd (blt_lt hb) (by omega)
    rw [this]
  have hrinj : ∀ i j, r' i = r' j → i = j := by
    intro i j hij
    rcases Nat.lt_or_ge i fr with h1 | h1 <;> rcases Nat.lt_or_ge j fr with h2 | h2
    · rw [hr1 i h1, hr1 j h2] at hij; exact hinj i j h1 h2 hij
    · rw [hr1 i h1, hr2 j h2] at hij; have := hσlt i h1; omega
    · rw [hr2 i h1, hr1 j h2] at hij; have := hσlt j h2; omega
    · rw [hr2 i h1, hr2 j h2] at hij; omega
  have hι' : ∀ n p, ι' n = some p → ιn (r' n) = some p := by
    intro n p hp
    rcases Nat.lt_or_ge n fr with h1 | h1
    · rw [hr1 n h1]
      rw [hσι n h1] at hp
      exact hιn _ p hp
    · rw [hr2 n h1]
      show (if S.fr + (n - fr) < S.fr then ι (S.fr + (n - fr)) else ι' (S.fr + (n - fr) - S.fr + fr)) = some p
      rw [if_neg (by omega), show S.fr + (n - fr) - S.fr + fr = n by omega]
      exact hp
  let hn := appH (renH r' h') (dropN σ fr S.h)
  have names : ∀ n B, look n hn = some B → (∃ m B0, r' m = n ∧ look m h' = some B0 ∧ B = B0.ren r') ∨ (look n S.h = some B ∧ ∀ i, i < fr → σ i ≠ n) := by
    intro n B hB
    have : look n (appH (renH r' h') (dropN σ fr S.h)) = some B := hB
    rw [look_app] at this
    split at this
    · rename_i B' hB'
      obtain rfl := Option.some.inj this
      exact .inl (look_renH hrinj n h' _ hB')
    · exact .inr (look_dropN σ fr n S.h B this)
  have back : ∀ n b c l, (look n hn).isSome = true → ιn n = some (.blk b c l) →
      (∃ m, r' m = n ∧ (look m h').isSome = true ∧ ι' m = some (.blk b c l)) ∨ ((look n S.h).isSome = true ∧ (∀ i, i < fr → σ i ≠ n) ∧ ι n = some (.blk b c l)) := by
    intro n b c l h1 h2
    obtain ⟨B, hB⟩ := Option.isSome_iff_exists.1 h1
    rcases names n B hB with ⟨m, B0, h3, h4, _⟩ | ⟨h3, h4⟩
    · refine .inl ⟨m, h3, by rw [h4]; rfl, ?_⟩
      cases H'.hp m B0 h4 with
      | cs _ _ _ _ _ _ hi => have := hι' m _ hi; rw [h3, h2] at this; rw [hi]; exact this.symm
      | ds0 _ _ hi => have := hι' m _ hi; rw [h3, h2] at this; cases this
      | ds _ _ _ _ _ _ hi => have := hι' m _ hi; rw [h3, h2] at this; rw [hi]; exact this.symm
    · refine .inr ⟨by rw [h3]; rfl, h4, ?_⟩
      cases H.hr.hp n B h3 with
      | cs _ _ _ _ _ _ hi => have := hιn n _ hi; rw [h2] at this; rw [hi]; exact this.symm
      | ds0 _ _ hi => have := hιn n _ hi; rw [h2] at this; cases this
      | ds _ _ _ _ _ _ hi => have := hιn n _ hi; rw [h2] at this; rw [hi]; exact this.symm
  have hX : ∀ b, Xc b → bad cx.L ι S.h b := fun b ⟨m, c, l, hm, hi⟩ => .inr ⟨σ m, c, l, hsome m hm, hi⟩
  have hs : ∀ b, b < w.heap.size → ¬ bad cx.L ι S.h b → w'.heap[b]? = w.heap[b]? ∧ ¬ bad cx.L ιn hn b := by
    intro b hb hnb
    refine ⟨H'.kp.block b hb (fun hx => hnb (hX b hx)), ?_⟩
    rintro (h1 | ⟨n, c, l, h1, h2⟩)
    · exact hnb (.inl h1)
    · rcases back n b c l h1 h2 with ⟨m, _, h4, h5⟩ | ⟨h3, _, h4⟩
      · rcases (H'.out m b c l h4 h5).2 with h6 | h6
        · exact hnb (hX b h6)
        · exact absurd hb (by have : w.heap.size ≤ b := h6; omega)
      · exact hnb (.inr ⟨n, c, l, h3, h4⟩)
  have hR' : ∀ b o v, rdOf Lc ι' h' w' b o v → rdOf cx.L ιn hn w' b o v := by
    intro b o v ⟨h1, h2⟩
    refine ⟨?_, h2⟩
    rintro (h3 | ⟨n, c, l, h3, h4⟩)
    · exact h1 (.inl (.inl h3))
    · rcases back n b c l h3 h4 with ⟨m, _, h5, h6⟩ | ⟨h5, h6, h7⟩
      · exact h1 (.inr ⟨m, c, l, h5, h6⟩)
      · exact h1 (.inl (.inr ⟨n, c, l, h5, h7, h6⟩))
  have hinX : ∀ b, Xc b → cx.X b ∨ cx.w0.w.heap.size ≤ b := fun b ⟨m, c, l, hm, hi⟩ => (H.hr.out _ _ _ _ (hsome m hm) hi).2
  have HN : HRel cx.X cx.L cx.w0 ιn hn (S.fr + (fr' - fr)) w' := by
    refine H.hr.step (Y := Xc) hιn hs ?_ ?_ ?_ ?_ ⟨H'.kp.os, H'.kp.tape, H'.kp.output, H'.kp.size, H'.kp.block⟩ hinX
    · intro n B hB
      rcases names n B hB with ⟨m, B0, h3, h4, h5⟩ | ⟨h3, h4⟩
      · right
        subst h3
        subst h5
        exact ((H'.hp m B0 h4).ren_to hι').mono hR' (fun _ _ h => h) (fun _ _ _ _ => rfl)
      · refine .inl ⟨h3, fun b c l hi => H'.kp.block b (hlt2 n b c l (by rw [h3]; rfl) hi) ?_⟩
        rintro ⟨m, c', l', hm, hi'⟩
        exact h4 m hm (H.hr.inj _ _ _ _ _ _ _ (hsome m hm) (by rw [h3]; rfl) hi' hi)
    · intro n m b c l c' l' h1 h2 h3 h4
      have cross : ∀ m n c l c' l', (look m h').isSome = true → ι' m = some (.blk b c l) → (look n S.h).isSome = true → (∀ i, i < fr → σ i ≠ n) → ι n = some (.blk b c' l') → False := by
        intro m n c l c' l' g1 g2 g3 g4 g5
        exact (H'.out m b c l g1 g2).1 (.inr ⟨n, c', l', g3, g5, g4⟩)
      rcases back n b c l h1 h3 with ⟨n1, h5, h6, h7⟩ | ⟨h5, h6, h7⟩ <;> rcases back m b c' l' h2 h4 with ⟨m1, h8, h9, h10⟩ | ⟨h8, h9, h10⟩
      · rw [← h5, ← h8, H'.inj n1 m1 b c l c' l' h6 h9 h7 h10]
      · exact (cross n1 m c l c' l' h6 h7 h8 h9 h10).elim
      · exact (cross m1 n c' l' c l h9 h10 h5 h6 h7).elim
      · exact H.hr.inj _ _ _ _ _ _ _ h5 h8 h7 h10
    · intro n b c l h1 h2
      rcases back n b c l h1 h2 with ⟨m, h3, h4, h5⟩ | ⟨h3, h4, h5⟩
      · obtain ⟨h6, h7⟩ := H'.out m b c l h4 h5
        refine ⟨fun hL => h6 (.inl hL), ?_⟩
        rcases h7 with h7 | h7
        · exact hinX b h7
        · right
          have h8 : w.heap.size ≤ b := h7
          exact Nat.le_trans H.hr.kp.size h8
      · exact H.hr.out _ _ _ _ h3 h5
    · intro n hn'
      show (if n < S.fr then ι n else ι' (n - S.fr + fr)) = none
      rw [if_neg (by omega)]
      exact H'.fresh _ (by omega)
  have hrel : Rel cx.X cx.L cx.w0 cx.nt ιn (S.after σ fr h' fr') a w' := Rel.world H HN hιn hs
  exact next x h' fr' hQ ιn _ w' (hrel.put hd ((hrep.ren_to hι').mono hR' (fun _ _ h => h)))

/-- A call of a Go function. -/
theorem call_wp {K : Act → World → Prop} {ι : Io} {a : Act} {w : World} {S : St} {o : Oper} {c : Call} {fo : Operand} {g : FuncId} {fi ca args : List AV} {h : List (Nat × Blk)} {fr : Nat} {Qc : AV → List (Nat × Blk) → Nat → Prop}
    (H : Rel cx.X cx.L cx.w0 cx.nt ι S a w)
    (spec : ASpec P g args h fr Qc) (σ : Nat → Nat) (ho : o.op = .call c) (hc : c.callee = .value fo) (hd : ∀ d, o.dst = some d → d < cx.nt)
    (hf : fargs (evl S fo) = some (g, fi, ca)) (hargs : app3 fi (evls S c.args.toList) ca = rens σ args) (hlt : lts fr args = true)
    (hall : ∀ n, n < fr → (look n h).isSome = true) (hh : ∀ n B, look n h = some B → n < fr ∧ B.lt fr = true ∧ look (σ n) S.h = some (B.ren σ))
    (hinj : ∀ n m, n < fr → m < fr → σ n = σ m → n = m)
    (next : ∀ x h' fr', Qc x h' fr' → ∀ ι' a' w', Rel cx.X cx.L cx.w0 cx.nt ι' ((S.after σ fr h' fr').put o.dst (x.ren (shift σ fr S.fr))) a' w' → K a' w') :
    o.wp P a w K Q := by
  -- the values handed over
  obtain ⟨vfi, vca, hfv, hfl, hcl, hfr, hcr⟩ : ∃ vfi vca : List Value, a.eval fo = .func (.func g) vfi.toArray vca.toArray ∧ fi.length = vfi.length ∧ ca.length = vca.length ∧
      (∀ (i : Nat) (x : AV) (v : Value), fi[i]? = some x → vfi[i]? = some v → RepV (rdOf cx.L ι S.h w) ι x v) ∧
      (∀ (i : Nat) (x : AV) (v : Value), ca[i]? = some x → vca[i]? = some v → RepV (rdOf cx.L ι S.h w) ι x v) := by
    have hfo := H.evl fo
    unfold fargs at hf
    split at hf
    · rename_i g' hgv
      simp only [Option.some.injEq, Prod.mk.injEq] at hf
      obtain ⟨rfl, rfl, rfl⟩ := hf
      rw [hgv] at hfo
      exact ⟨[], [], rep_s hfo, rfl, rfl, by simp, by simp⟩
    · rename_i g' fi' ca' hgv
      simp only [Option.some.injEq, Prod.mk.injEq] at hf
      obtain ⟨rfl, rfl, rfl⟩ := hf
      rw [hgv] at hfo
      generalize a.eval fo = fv at hfo ⊢
      cases hfo with
      | fn _ _ _ vs ws h1 h2 h3 h4 => exact ⟨vs, ws, rfl, h1, h2, h3, h4⟩
    · cases hf
  obtain ⟨hxl, hxr⟩ := evls_rep H c.args.toList
  have happ : ∀ fi xs ca : List AV, app3 fi xs ca = fi ++ (xs ++ ca) := by
    intro fi xs ca
    unfold app3
    split <;> simp
  rw [happ] at hargs
  have hvl : args.length = (vfi ++ (c.args.toList.map a.eval ++ vca)).length := by
    have := congrArg List.length hargs
    rw [rens_length] at this
    rw [← this]
    simp only [List.length_append, hfl, hcl, hxl]
  have hvr : ∀ (i : Nat) (x : AV) (v : Value), (fi ++ (evls S c.args.toList ++ ca))[i]? = some x → (vfi ++ (c.args.toList.map a.eval ++ vca))[i]? = some v → RepV (rdOf cx.L ι S.h w) ι x v := by
    have two : ∀ {xs ys : List AV} {vs us : List Value}, xs.length = vs.length → (∀ (i : Nat) (x : AV) (v : Value), xs[i]? = some x → vs[i]? = some v → RepV (rdOf cx.L ι S.h w) ι x v) →
        (∀ (i : Nat) (x : AV) (v : Value), ys[i]? = some x → us[i]? = some v → RepV (rdOf cx.L ι S.h w) ι x v) →
        ∀ (i : Nat) (x : AV) (v : Value), (xs ++ ys)[i]? = some x → (vs ++ us)[i]? = some v → RepV (rdOf cx.L ι S.h w) ι x v := by
      intro xs ys vs us h1 h2 h3 i x v h4 h5
      rcases Nat.lt_or_ge i xs.length with h6 | h6
      · rw [List.getElem?_append_left h6] at h4
        rw [List.getElem?_append_left (by omega)] at h5
        exact h2 i x v h4 h5
      · rw [List.getElem?_append_right h6] at h4
        rw [List.getElem?_append_right (by omega), ← h1] at h5
        exact h3 _ x v h4 h5
    exact two hfl hfr (two hxl hxr hcr)
  rw [hargs] at hvr
  exact enter_wp H spec σ hd (call_enters ho hc spec.1 hfv) hvl hvr hlt hall hh hinj next

/-- A call of a Go function. -/
theorem AK.call {all r : List Oper} {k : List KI} {S : St} {o : Oper} {c : Call} {fo : Operand} {g : FuncId} {fi ca args : List AV} {h : List (Nat × Blk)} {fr : Nat} {Qc : AV → List (Nat × Blk) → Nat → Prop}
    (spec : ASpec P g args h fr Qc) (σ : Nat → Nat) (ho : o.op = .call c) (hc : c.callee = .value fo) (hg : guardB all S o = some true) (hd : ∀ d, o.dst = some d → d < cx.nt)
    (hf : fargs (evl S fo) = some (g, fi, ca)) (hargs : app3 fi (evls S c.args.toList) ca = rens σ args) (hlt : lts fr args = true)
    (hall : ∀ n, n < fr → (look n h).isSome = true) (hh : ∀ n B, look n h = some B → n < fr ∧ B.lt fr = true ∧ look (σ n) S.h = some (B.ren σ))
    (hinj : ∀ n m, n < fr → m < fr → σ n = σ m → n = m)
    (next : ∀ x h' fr', Qc x h' fr' → AK P cx Q (.ops all r :: k) ((S.after σ fr h' fr').put o.dst (x.ren (shift σ fr S.fr)))) :
    AK P cx Q (.ops all (o :: r) :: k) S := by
  intro ι a w H
  show wpList P all.toArray (den P cx Q k) (o :: r) a w
  unfold wpList
  rw [guardB_spec H hg, if_pos rfl]
  exact .inl (call_wp H spec σ ho hc hd hf hargs hlt hall hh hinj fun x h' fr' hQ ι' a' w' H' => next x h' fr' hQ ι' a' w' H')

/-- The same, without names. -/
theorem AK.call0 {all r : List Oper} {k : List KI} {S : St} {o : Oper} {c : Call} {fo : Operand} {g : FuncId} {fi ca args : List AV} {Qc : AV → List (Nat × Blk) → Nat → Prop}
    (spec : ASpec P g args [] 0 Qc) (ho : o.op = .call c) (hc : c.callee = .value fo) (hg : guardB all S o = some true) (hd : ∀ d, o.dst = some d → d < cx.nt)
    (hf : fargs (evl S fo) = some (g, fi, ca)) (hargs : app3 fi (evls S c.args.toList) ca = rens id args) (hlt : lts 0 args = true)
    (next : ∀ x h' fr', Qc x h' fr' → AK P cx Q (.ops all r :: k) ((S.after id 0 h' fr').put o.dst (x.ren (shift id 0 S.fr)))) :
    AK P cx Q (.ops all (o :: r) :: k) S :=
  AK.call spec id ho hc hg hd hf hargs hlt (fun n hn => absurd hn (by omega)) (fun n B h => by simp [look] at h) (fun n m h => absurd h (by omega)) next

end
end Go.Ua
