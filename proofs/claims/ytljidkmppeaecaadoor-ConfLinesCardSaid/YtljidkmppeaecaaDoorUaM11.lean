/- The library of this claim and its walks, part 11, joined out of smaller texts. No statement stands in it. -/
import Derived.Test.YtljidkmppeaecaaDoorUaM10
/- Code evaluated on abstract states: as far as it goes by itself; calls; loops; the end. A library of this claim's own: no statement stands in it. -/
namespace Go.Ua
open Go
set_option linter.unusedVariables false
set_option linter.unusedSimpArgs false

/-- What is still to be done. -/
inductive KI where
  | code (c : Code)
  | blk (id : Nat)
  | ops (all rest : List Oper)
  | back (J : St → Prop)

def unw (id : Nat) : List KI → Option (List KI)
  | [] => none
  | .blk j :: k => (match Nat.beq j id with
    | true => some k
    | false => unw id k)
  | _ :: k => unw id k

/-- What the package's variables hold that nobody writes. -/
class Globs (P : Program) where
  G : Nat → (List Value → Prop) → Prop

def GOK (P : Program) [Globs P] (X : Nat → Prop) (w : World) : Prop := ∀ b p, Globs.G P b p → ¬ X b ∧ ∃ cs t fz, p cs ∧ w.heap[b]? = some (.cells cs.toArray t fz)

structure Cx (P : Program) [Globs P] where
  X : Nat → Prop
  L : Nat → Prop
  w0 : W0
  nt : Nat
  gok : GOK P X w0.w

section
variable {P : Program} [Globs P] {τ : Tab} {cx : Cx P} {Q : Exit → Act → World → Prop}

def den (P : Program) [Globs P] (cx : Cx P) (Q : Exit → Act → World → Prop) : List KI → Exit → Act → World → Prop
  | [] => Q
  | .code c :: k => Exit.then (c.wp P (den P cx Q k)) (den P cx Q k)
  | .blk id :: k => Exit.inBlock id (den P cx Q k)
  | .ops all rest :: k => Exit.then (wpList P all.toArray (den P cx Q k) rest) (den P cx Q k)
  | .back J :: k => Exit.then (fun a w => ∃ S ι, J S ∧ Rel cx.X cx.L cx.w0 cx.nt ι S a w) (den P cx Q k)

/-- From such a state what is to be done comes to the end Q. -/
def AK (P : Program) [Globs P] (cx : Cx P) (Q : Exit → Act → World → Prop) (k : List KI) (S : St) : Prop :=
  ∀ ι a w, Rel cx.X cx.L cx.w0 cx.nt ι S a w → den P cx Q k .normal a w

def AKp (P : Program) [Globs P] (cx : Cx P) (Q : Exit → Act → World → Prop) (p : List KI × St) : Prop := AK P cx Q p.1 p.2

theorem den_exit (id : Nat) : ∀ (k k' : List KI), unw id k = some k' → ∀ a w, den P cx Q k' .normal a w → den P cx Q k (.exit id) a w
  | [], k', h, a, w, hd => by simp [unw] at h
  | .code c :: k, k', h, a, w, hd => den_exit id k k' h a w hd
  | .ops all rest :: k, k', h, a, w, hd => den_exit id k k' h a w hd
  | .back J :: k, k', h, a, w, hd => den_exit id k k' h a w hd
  | .blk j :: k, k', h, a, w, hd => by
    simp only [unw] at h
    split at h
    · rename_i e
      obtain rfl := Nat.eq_of_beq_eq_true e
      obtain rfl := Option.some.inj h
      simp only [den, Exit.inBlock, if_true]
      exact hd
    · rename_i e
      have hne : ¬ id = j := fun e' => by rw [e'] at e; exact absurd e (by simp)
      simp only [den, Exit.inBlock, if_neg hne]
      exact den_exit id k k' h a w hd

theorem den_ret : ∀ (k : List KI) (a : Act) (w : World), Q .ret a w → den P cx Q k .ret a w
  | [], a, w, h => h
  | .code c :: k, a, w, h => den_ret k a w h
  | .ops all rest :: k, a, w, h => den_ret k a w h
  | .back J :: k, a, w, h => den_ret k a w h
  | .blk j :: k, a, w, h => den_ret k a w h

/-- Is an operation wanted? -/
def guardB (all : List Oper) (S : St) (o : Oper) : Option Bool := match o.guard with
  | none => some true
  | some (j, want) => (match all[j]? with
    | some oj => (match oj.dst with
      | some d => (match look d S.t with
        | some (.d (.s (.bool b))) => (match b, want with
          | true, true => some true
          | true, false => some false
          | false, true => some false
          | false, false => some true)
        | some (.tup []) => some false
        | _ => none)
      | none => none)
    | none => none)

def asB : Option Value → Option Bool
  | some (.bool b) => some b
  | _ => none

theorem guardB_spec {X L : Nat → Prop} {w0 : W0} {w : World} {nt : Nat} {ι : Io} {S : St} {a : Act} (H : Rel X L w0 nt ι S a w) {all : List Oper} {o : Oper} {b : Bool} (h : guardB all S o = some b) :
    Region.wanted o (yielded all.toArray a.tmps) = b := by
  unfold guardB at h
  unfold Region.wanted
  split at h
  · rename_i hg
    rw [hg]
    exact Option.some.inj h
  · rename_i j want hg
    rw [hg]
    simp only
    split at h
    · rename_i oj hj
      split at h
      · rename_i d hd
        have hy : yielded all.toArray a.tmps j = asB a.tmps[d]? := by
          unfold yielded
          have : ((all.toArray[j]?).bind (·.dst)).bind (a.tmps[·]?) = a.tmps[d]? := by
            simp [hj, hd]
          rw [this]
          unfold asB
          rfl
        have key : ∀ {x : AV} {v : Value}, look d S.t = some x → RepV (rdOf L ι S.h w) ι x v → a.tmps.getD d undef = v → v ≠ undef → a.tmps[d]? = some v := by
          intro x v _ _ h1 h2
          rw [Array.getD_eq_getD_getElem?] at h1
          cases he : a.tmps[d]? with
          | none => rw [he] at h1; exact absurd h1.symm h2
          | some u => rw [he] at h1; simp at h1; rw [h1]
        split at h
        · rename_i b0 hl
          have hr := H.tm d _ hl
          have := rep_s hr
          rw [hy, key hl hr rfl (by rw [this]; simp [Sc.val, undef]), this]
          cases b0 <;> cases want <;> (have := Option.some.inj h; subst this; rfl)
        · rename_i hl
          have hr := H.tm d _ hl
          have hu : a.tmps.getD d undef = undef := by
            generalize a.tmps.getD d undef = v at hr
            cases hr with
            | tup _ vs hl' _ =>
              have : vs = [] := List.eq_nil_of_length_eq_zero (by simpa using hl'.symm)
              subst this
              rfl
          have hn : asB a.tmps[d]? = none := by
            rw [Array.getD_eq_getD_getElem?] at hu
            cases he : a.tmps[d]? with
            | none => rfl
            | some u =>
              rw [he] at hu
              simp only [Option.getD_some] at hu
              subst hu
              rfl
          rw [hy, hn]
          have := Option.some.inj h
          subst this
          rfl
        · cases h
      · cases h
    · cases h

def runC (A : Ar) (τ : Tab) (nt : Nat) : Nat → List KI → St → List KI × St
  | 0, k, S => (k, S)
  | f + 1, k, S => (match k with
    | [] => ([], S)
    | .back J :: k => (.back J :: k, S)
    | .blk _ :: k => runC A τ nt f k S
    | .ops _ [] :: k => runC A τ nt f k S
    | .ops all (o :: r) :: k => (match guardB all S o with
      | some true => (match stepOp A τ nt S o with
        | some S' => runC A τ nt f (.ops all r :: k) S'
        | none => (.ops all (o :: r) :: k, S))
      | some false => (match (match o.dst with
          | some d => Nat.blt d nt
          | none => true) with
        | true => runC A τ nt f (.ops all r :: k) (S.put o.dst (.tup []))
        | false => (.ops all (o :: r) :: k, S))
      | none => (.ops all (o :: r) :: k, S))
    | .code c :: k => (match c with
      | .skip => runC A τ nt f k S
      | .seq x y => runC A τ nt f (.code x :: .code y :: k) S
      | .block id x => runC A τ nt f (.code x :: .blk id :: k) S
      | .exit id => (match unw id k with
        | some k' => runC A τ nt f k' S
        | none => (.code (.exit id) :: k, S))
      | .cond c x y => (match evl S c with
        | .d (.s (.bool b)) => (match b with
          | true => runC A τ nt f (.code x :: k) S
          | false => runC A τ nt f (.code y :: k) S)
        | _ => (.code (.cond c x y) :: k, S))
      | .region id ops false => runC A τ nt f (.ops ops.toList ops.toList :: k) S
      | .label _ => runC A τ nt f k S
      | c => (.code c :: k, S)))

theorem den_seq {x y : Code} {k : List KI} {a : Act} {w : World} (h : den P cx Q (.code x :: .code y :: k) .normal a w) : den P cx Q (.code (.seq x y) :: k) .normal a w := wp_seq h

theorem AK.step (hτ : TabOK P τ) : ∀ (f : Nat) (k : List KI) (S : St), AKp P cx Q (runC Ar.real τ cx.nt f k S) → AK P cx Q k S := by
  intro f
  induction f with
  | zero => intro k S h; exact h
  | succ f ih =>
    intro k S h
    unfold runC at h
    split at h
    · exact h
    · exact h
    · rename_i id k
      have := ih _ _ h
      intro ι a w H
      exact this ι a w H
    · rename_i all k
      have := ih _ _ h
      intro ι a w H
      exact this ι a w H
    · rename_i all o r k
      split at h
      · rename_i hg
        split at h
        · rename_i S' hS
          have := ih _ _ h
          intro ι a w H
          show wpList P all.toArray (den P cx Q k) (o :: r) a w
          unfold wpList
          rw [guardB_spec H hg, if_pos rfl]
          exact .inl (stepOp_wp hτ H hS fun ι' a' w' H' => this ι' a' w' H')
        · exact h
      · rename_i hg
        split at h
        · rename_i hd
          have := ih _ _ h
          intro ι a w H
          show wpList P all.toArray (den P cx Q k) (o :: r) a w
          unfold wpList
          rw [guardB_spec H hg, if_neg (by simp)]
          refine this ι _ w (H.put (fun n hn => ?_) ?_)
          · rw [hn] at hd
            exact blt_lt hd
          · exact .tup [] [] rfl (by simp)
        · exact h
      · exact h
    · rename_i c k
      split at h
      · have := ih _ _ h
        intro ι a w H
        exact wp_skip (this ι a w H)
      · rename_i x y
        have := ih _ _ h
        intro ι a w H
        exact den_seq (this ι a w H)
      · rename_i id x
        have := ih _ _ h
        intro ι a w H
        exact wp_block (this ι a w H)
      · rename_i id
        split at h
        · rename_i k' hk
          have := ih _ _ h
          intro ι a w H
          exact wp_exit (den_exit id k k' hk a w (this ι a w H))
        · exact h
      · rename_i c x y
        split at h
        · rename_i b hc
          cases b
          · have := ih _ _ h
            intro ι a w H
            have he := H.evl c
            rw [hc] at he
            exact wp_cond (rep_s he) (this ι a w H)
          · have := ih _ _ h
            intro ι a w H
            have he := H.evl c
            rw [hc] at he
            exact wp_cond (rep_s he) (this ι a w H)
        · exact h
      · rename_i id ops
        have := ih _ _ h
        intro ι a w H
        refine wp_region_list ?_
        have := this ι a w H
        simpa [den, Exit.then] using this
      · rename_i l
        have := ih _ _ h
        intro ι a w H
        exact wp_label (this ι a w H)
      · exact h

/-- What goes by itself, with the arithmetic behind a letter. -/
theorem AK.run {F : Fam} (hF : F = Fam.real) (hτ : TabOK P τ) {n : Nat} (hn : cx.nt = n) {k : List KI} {S : St} (h : AKp P cx Q (runC (Ar.of F) τ n 100000 k S)) : AK P cx Q k S := by
  subst hF
  subst hn
  exact AK.step hτ _ k S h

/-! ### Less told -/

def leT (r : Nat → Nat) (fr : Nat) (t : List (Nat × AV)) : List (Nat × AV) → Prop
  | [] => True
  | p :: l => (p.2.lt fr = true ∧ look p.1 t = some (p.2.ren r)) ∧ leT r fr t l

def leH (r : Nat → Nat) (fr : Nat) (h : List (Nat × Blk)) : List (Nat × Blk) → Prop
  | [] => True
  | p :: l => (p.1 < fr ∧ p.2.lt fr = true ∧ look (r p.1) h = some (p.2.ren r)) ∧ leH r fr h l

theorem leT_get {r : Nat → Nat} {fr : Nat} {t : List (Nat × AV)} : ∀ {l : List (Nat × AV)}, leT r fr t l → ∀ i x, look i l = some x → x.lt fr = true ∧ look i t = some (x.ren r)
  | [], _, i, x, h => by simp [look] at h
  | p :: l, H, i, x, h => by
    rw [look_cons] at h
    split at h
    · rename_i e
      obtain rfl := Option.some.inj h
      subst e
      exact H.1
    · exact leT_get H.2 i x h

theorem leH_get {r : Nat → Nat} {fr : Nat} {t : List (Nat × Blk)} : ∀ {l : List (Nat × Blk)}, leH r fr t l → keeps r fr t l
  | [], _, i, x, h => by simp [look] at h
  | p :: l, H, i, x, h => by
    rw [look_cons] at h
    split at h
    · rename_i e
      obtain rfl := Option.some.inj h
      subst e
      exact H.1
    · exact leH_get H.2 i x h

theorem St.le_of {r : Nat → Nat} {S S' : St} (h1 : leT r S'.fr S.t S'.t) (h2 : leH r S'.fr S.h S'.h)
    (h3 : ∀ n m, (look n S'.h).isSome = true → (look m S'.h).isSome = true → r n = r m → n = m) : S.le r S' :=
  ⟨fun t x ht => ⟨(leT_get h1 t x ht).1, .inl (leT_get h1 t x ht).2⟩, leH_get h2, h3⟩

def leT0 (fr : Nat) (t : List (Nat × AV)) : List (Nat × AV) → Prop
  | [] => True
  | p :: l => (look p.1 t = some p.2 ∧ p.2.lt fr = true) ∧ leT0 fr t l

def leH0 (fr : Nat) (h : List (Nat × Blk)) : List (Nat × Blk) → Prop
  | [] => True
  | p :: l => (look p.1 h = some p.2 ∧ p.2.lt fr = true ∧ Nat.blt p.1 fr = true) ∧ leH0 fr h l

mutual
theorem ren_id : ∀ x : AV, x.ren id = x
  | .d x => rfl
  | .agg cs => by simp only [AV.ren, rens_id cs]
  | .tup cs => by simp only [AV.ren, rens_id cs]
  | .ptr n i o k => rfl
  | .opt n => rfl
  | .row n k => rfl
  | .own n i l k c => rfl
  | .iface t x => by simp only [AV.ren, ren_id x]
  | .fn f a b => by simp only [AV.ren, rens_id a, rens_id b]
  | .nul => rfl
  | .any => rfl
theorem rens_id : ∀ l : List AV, rens id l = l
  | [] => rfl
  | x :: l => by simp only [rens, ren_id x, rens_id l]
end

theorem bren_id (B : Blk) : B.ren id = B := by cases B <;> simp [Blk.ren, rens_id]

/-- Less told, no name changed. -/
theorem St.le0 {S S' : St} (h1 : leT0 S'.fr S.t S'.t) (h2 : leH0 S'.fr S.h S'.h) : S.le id S' := by
  refine St.le_of ?_ ?_ (fun n m _ _ h => h)
  · have : ∀ l, leT0 S'.fr S.t l → leT id S'.fr S.t l := by
      intro l
      induction l with
      | nil => intro _; trivial
      | cons p l ih => intro h; exact ⟨⟨h.1.2, by rw [ren_id]; exact h.1.1⟩, ih h.2⟩
    exact this _ h1
  · have : ∀ l, leH0 S'.fr S.h l → leH id S'.fr S.h l := by
      intro l
      induction l with
      | nil => intro _; trivial
      | cons p l ih => intro h; exact ⟨⟨blt_lt h.1.2.2, h.1.2.1, by rw [bren_id]; exact h.1.1⟩, ih h.2⟩
    exact this _ h2

/-- Less told, in a call that was handed no names: which slots, which blocks. -/
theorem AK.keep {k : List KI} {S : St} (S' : St) (h0 : cx.w0.fr = 0) (h1 : leT0 S'.fr S.t S'.t) (h2 : leH0 S'.fr S.h S'.h) (h : AK P cx Q k S') : AK P cx Q k S := by
  intro ι a w H
  obtain ⟨ι', H'⟩ := H.le (fun n hn => by omega) (St.le0 h1 h2)
  exact h ι' a w H'

theorem AK.again {k : List KI} {S : St} (S' : St) {J : St → Prop} (h0 : cx.w0.fr = 0) (h1 : leT0 S'.fr S.t S'.t) (h2 : leH0 S'.fr S.h S'.h) (h : J S') : AK P cx Q (.back J :: k) S := by
  intro ι a w H
  obtain ⟨ι', H'⟩ := H.le (fun n hn => by omega) (St.le0 h1 h2)
  exact ⟨S', ι', h, H'⟩

theorem AK.back {k : List KI} {S S' : St} {J : St → Prop} (r : Nat → Nat) (hold : ∀ n, n < cx.w0.fr → n < S'.fr ∧ r n = n) (hle : S.le r S') (h : J S') : AK P cx Q (.back J :: k) S := by
  intro ι a w H
  obtain ⟨ι', H'⟩ := H.le hold hle
  exact ⟨S', ι', h, H'⟩

/-- A loop: what holds at each round's head, with a number that each round lowers. -/
theorem AK.loop {k : List KI} {S : St} {c : Code} (I : Nat → St → Prop) (n : Nat) (h0 : I n S)
    (round : ∀ n S, I n S → AK P cx Q (.code c :: .back (fun S' => ∃ m, m < n ∧ I m S') :: k) S) : AK P cx Q (.code (.loop c) :: k) S := by
  intro ι a w H
  refine wp_loop_ghost (fun n a w => ∃ S ι, I n S ∧ Rel cx.X cx.L cx.w0 cx.nt ι S a w) n ⟨S, ι, h0, H⟩ ?_
  rintro n a w ⟨S, ι, hI, H⟩
  have := round n S hI ι a w H
  refine wp_mono this ?_
  intro e a' w' hq
  cases e with
  | normal =>
    obtain ⟨S', ι', ⟨m, hm, hI'⟩, H'⟩ := hq
    exact ⟨m, hm, S', ι', hI', H'⟩
  | exit id => exact hq
  | goto l => exact hq
  | ret => exact hq
  | panic ch => exact hq
  | outgrown => exact hq

theorem AK.ret {k : List KI} {S : St} (h : ∀ ι a w, Rel cx.X cx.L cx.w0 cx.nt ι S a w → Q .ret a w) : AK P cx Q (.code .ret :: k) S := by
  intro ι a w H
  exact wp_ret (den_ret k a w (h ι a w H))

theorem AK.end {S : St} (h : ∀ ι a w, Rel cx.X cx.L cx.w0 cx.nt ι S a w → Q .normal a w) : AK P cx Q [] S := fun ι a w H => h ι a w H


theorem AKp.keep {k : List KI} {S : St} (S' : St) (h0 : cx.w0.fr = 0) (h1 : leT0 S'.fr S.t S'.t) (h2 : leH0 S'.fr S.h S'.h) (h : AK P cx Q k S') : AKp P cx Q (k, S) := AK.keep S' h0 h1 h2 h
theorem AKp.again {k : List KI} {S : St} (S' : St) {J : St → Prop} (h0 : cx.w0.fr = 0) (h1 : leT0 S'.fr S.t S'.t) (h2 : leH0 S'.fr S.h S'.h) (h : J S') : AKp P cx Q (.back J :: k, S) := AK.again S' h0 h1 h2 h
theorem AKp.loop {k : List KI} {S : St} {c : Code} (S' : St) (h0 : cx.w0.fr = 0) (h1 : leT0 S'.fr S.t S'.t) (h2 : leH0 S'.fr S.h S'.h) (I : Nat → St → Prop) (n : Nat) (hI : I n S')
    (round : ∀ n S, I n S → AK P cx Q (.code c :: .back (fun S' => ∃ m, m < n ∧ I m S') :: k) S) : AKp P cx Q (.code (.loop c) :: k, S) :=
  AK.keep S' h0 h1 h2 (AK.loop I n hI round)

end
end Go.Ua

