/- The library of this claim and its walks, part 28, joined out of smaller texts. No statement stands in it. -/
import Derived.Test.YtljidkmppeaecaaDoorUaM27
/- A row whose last element holds a row: shut and opened again. -/
namespace Go.Ua
open Go Go.RowKit
set_option linter.unusedVariables false
set_option linter.unusedSimpArgs false
section
variable {P : Program} [Globs P] {cx : Cx P} {Q : Exit → Act → World → Prop}
/-- Its last element holds data alone: it is a row like others. -/
theorem AKp.shut {kk : List KI} {S : St} (n : Nat) {E : TypeId} {k m : Nat} {es : List Dat} {cells : List AV} {ds : List Dat} (hb : look n S.h = some (.xs E k m es cells)) (hc : unDs cells = some ds) (he : es[m]? = some (.agg ds))
    (h : AKp P cx Q (kk, ⟨S.t, (n, .ds E k es) :: del n S.h, S.fr⟩)) : AKp P cx Q (kk, S) := by
  intro ι a w H
  refine h ι a w (H.redesc hb fun hB => ?_)
  have hcs := unDs_some hc
  cases hB with
  | xs0 => simp at he
  | xs _ _ _ _ _ b cap cur hi hbk hl hcap hm hk0 hlen hkl hk h1 hr hr2 =>
    have hdl : ds.length = k := by rw [← hkl, hcs]; simp
    refine .ds _ _ _ b cap cur hi hbk hl hcap hm hk0 (fun i e hie => ?_) h1 fun i e j c v hie hc' hv => ?_
    · by_cases hlt : i < m
      · exact hk i e hlt hie
      · have := (List.getElem?_eq_some_iff.1 hie).1
        obtain rfl : i = m := by omega
        rw [he] at hie
        obtain rfl := Option.some.inj hie
        exact hdl
    · by_cases hlt : i < m
      · exact hr i e j c v hlt hie hc' hv
      · have := (List.getElem?_eq_some_iff.1 hie).1
        obtain rfl : i = m := by omega
        rw [he] at hie
        obtain rfl := Option.some.inj hie
        have hc2 : ds[j]? = some c := hc'
        exact rep_d (hr2 j (.d c) v (by rw [hcs, List.getElem?_map, hc2]; rfl) hv)
/-- The last element is seen by its cells. -/
theorem AKp.unshut {kk : List KI} {S : St} (n m : Nat) (es' : List Dat) {E : TypeId} {k : Nat} {es ds : List Dat} (hb : look n S.h = some (.ds E k es)) (hm : es.length = m + 1) (he : es[m]? = some (.agg ds)) (hl' : es'.length = es.length)
    (hes : ∀ i, i < m → es'[i]? = es[i]?) (h : AKp P cx Q (kk, ⟨S.t, (n, .xs E k m es' (ds.map .d)) :: del n S.h, S.fr⟩)) : AKp P cx Q (kk, S) := by
  intro ι a w H
  refine h ι a w (H.redesc hb fun hB => ?_)
  cases hB with
  | ds0 => simp at hm
  | ds _ _ _ b cap cur hi hbk hl hcap hmx hk0 hk h1 hr =>
    refine .xs _ _ _ _ _ b cap cur (by rw [hl']; exact hi) hbk hl (by rw [hl']; exact hcap) hmx hk0 (by rw [hl', hm]) ?_ (fun i e hlt hie => hk i e (by rw [← hes i hlt]; exact hie)) (by rw [hl']; exact h1)
      (fun i e j c v hlt hie hc hv => hr i e j c v (by rw [← hes i hlt]; exact hie) hc hv) fun j c v hc hv => ?_
    · have := hk m _ he
      rw [List.length_map]
      exact this
    · rw [List.getElem?_map, Option.map_eq_some_iff] at hc
      obtain ⟨d, hd, rfl⟩ := hc
      exact .d _ _ (hr m _ j d v he hd hv)
/-- A nil slice in it is a row of its own, that is empty. -/
theorem AKp.asRowX {kk : List KI} {S : St} (n j : Nat) (E2 : TypeId) (k2 : Nat) (hk2 : 0 < k2) {E : TypeId} {k m : Nat} {es : List Dat} {cells : List AV} (hb : look n S.h = some (.xs E k m es cells)) (hj : cells[j]? = some (.d (.s .sl0))) (hn : n < S.fr)
    (h : AKp P cx Q (kk, ⟨S.t, (n, .xs E k m es (cells.set j (.row S.fr k2))) :: del n ((S.fr, .ds E2 k2 []) :: S.h), S.fr + 1⟩)) : AKp P cx Q (kk, S) := by
  intro ι a w H
  obtain ⟨ι', H', hz⟩ := H.fresh (w' := w) (n0 := none) (loc := .nil) (B := .ds E2 k2 []) (z := .row S.fr k2) (v := .slice none 0 0) (fun b _ _ => rfl) (fun b c l h => by cases h) rfl rfl rfl (Nat.le_refl _)
    (fun R' ι' hR hι hi => .ds0 _ _ hi hk2) (fun R' ι' hi => .row0 _ _ _ hi)
  have hb' : look n ((S.fr, .ds E2 k2 []) :: S.h) = some (.xs E k m es cells) := by
    rw [look_cons, if_neg (fun e => by simp at e; omega)]
    exact hb
  refine h ι' a w (H'.redesc hb' fun hB => ?_)
  cases hB with
  | xs0 _ _ _ _ hi hk0 hkl h2 =>
    refine .xs0 _ _ _ _ hi hk0 (by rw [List.length_set]; exact hkl) fun i c hc => ?_
    rw [List.getElem?_set] at hc
    by_cases e : j = i
    · subst e
      have hlt : j < cells.length := (List.getElem?_eq_some_iff.1 hj).1
      rw [if_pos rfl, if_pos hlt] at hc
      obtain rfl := Option.some.inj hc
      exact ⟨_, hz⟩
    · rw [if_neg e] at hc
      exact h2 i c hc
  | xs _ _ _ _ _ b cap cur hi hbk hl hcap hmx hk0 hlen hkl hk h1 hr hr2 =>
    refine .xs _ _ _ _ _ b cap cur hi hbk hl hcap hmx hk0 hlen (by rw [List.length_set]; exact hkl) hk h1 hr fun i c v hc hv => ?_
    rw [List.getElem?_set] at hc
    by_cases e : j = i
    · subst e
      have hlt : j < cells.length := (List.getElem?_eq_some_iff.1 hj).1
      rw [if_pos rfl, if_pos hlt] at hc
      obtain rfl := Option.some.inj hc
      have := rep_s (hr2 j _ v hj hv)
      subst this
      exact hz
    · rw [if_neg e] at hc
      exact hr2 i c v hc hv
/-- A row like any other, or an empty one. -/
theorem AKp.shutG {kk : List KI} {S : St} (n : Nat) {E : TypeId} {k m : Nat} {es : List Dat} {cells : List AV} {ds : List Dat} (hb : look n S.h = some (.xs E k m es cells)) (hc : unDs cells = some ds) (he : es = [] ∨ es[m]? = some (.agg ds))
    (h : AKp P cx Q (kk, ⟨S.t, (n, .ds E k es) :: del n S.h, S.fr⟩)) : AKp P cx Q (kk, S) := by
  rcases he with rfl | he
  · intro ι a w H
    refine h ι a w (H.redesc hb fun hB => ?_)
    cases hB with
    | xs0 _ _ _ _ hi hk0 hkl h2 => exact .ds0 _ _ hi hk0
    | xs _ _ _ _ _ b cap cur hi hbk hl hcap hm hk0 hlen => simp at hlen
  · exact AKp.shut n hb hc he h

theorem RepB.move {R R' : Rd} {ι ι' : Io} {w : World} {n n' : Nat} {B : Blk} (hR : ∀ b o v, R b o v → R' b o v) (hι : ∀ n p, ι n = some p → ι' n = some p) (hn : ∀ p, ι n = some p → ι' n' = some p) (h : RepB R ι w n B) : RepB R' ι' w n' B := by
  cases h with
  | cs T cells b cap l cur hi hb hl h1 h => exact .cs T cells b cap l cur (hn _ hi) hb hl h1 fun j c v h2 h3 => (h j c v h2 h3).mono hR hι
  | ds0 E k hi hk0 => exact .ds0 E k (hn _ hi) hk0
  | ds E k es b cap cur hi hb hl hc hm hk0 hk h1 h => exact .ds E k es b cap cur (hn _ hi) hb hl hc hm hk0 hk h1 fun i e j c v h2 h3 h4 => (h i e j c v h2 h3 h4).mono hR
  | xs E k m es cells b cap cur hi hb hl hc hm hk0 hlen hkl hk h1 h h2 => exact .xs E k m es cells b cap cur (hn _ hi) hb hl hc hm hk0 hlen hkl hk h1 (fun i e j c v h0 h2 h3 h4 => (h i e j c v h0 h2 h3 h4).mono hR) fun j c v h3 h4 => (h2 j c v h3 h4).mono hR hι
  | xs0 E k m cells hi hk0 hkl h2 => exact .xs0 E k m cells (hn _ hi) hk0 hkl fun j c h => (h2 j c h).imp fun v hv => hv.mono hR hι
theorem RepB.loc {R : Rd} {ι : Io} {w : World} {n : Nat} {B : Blk} (h : RepB R ι w n B) : ∃ p, ι n = some p := by
  cases h with
  | cs T cells b cap l cur hi => exact ⟨_, hi⟩
  | ds0 E k hi => exact ⟨_, hi⟩
  | ds E k es b cap cur hi => exact ⟨_, hi⟩
  | xs E k m es cells b cap cur hi => exact ⟨_, hi⟩
  | xs0 E k m cells hi => exact ⟨_, hi⟩
theorem rep_move {R : Rd} {ι : Io} {n n' k : Nat} {v : Value} (hn : ∀ p, ι n = some p → ι n' = some p) (h : RepV R ι (.row n k) v) : RepV R ι (.row n' k) v := by
  cases h with
  | row _ _ b cap len hi => exact .row _ _ _ _ _ (hn _ hi)
  | row0 _ _ a hi => exact .row0 _ _ _ (hn _ hi)
/-- A block under a new name. -/
theorem Rel.anew {X L : Nat → Prop} {w0 : W0} {nt : Nat} {ι : Io} {S : St} {a : Act} {w : World} (H : Rel X L w0 nt ι S a w) {n : Nat} {B : Blk} (hb : look n S.h = some B) :
    ∃ ι', Rel X L w0 nt ι' ⟨S.t, (S.fr, B) :: del n S.h, S.fr + 1⟩ a w ∧ (∀ p, ι' n = some p → ι' S.fr = some p) ∧ n < S.fr := by
  have hB := H.hr.hp n B hb
  obtain ⟨loc, hloc⟩ := hB.loc
  have hfr : n < S.fr := by
    rcases Nat.lt_or_ge n S.fr with h | h
    · exact h
    · rw [H.hr.fresh n h] at hloc; cases hloc
  have := H.change (w' := w) (n0 := some n) (m := S.fr) (fr' := S.fr + 1) (loc := loc) (B := B) ⟨by omega, by omega⟩ (.inl (H.hr.fresh _ (Nat.le_refl _))) (fun b _ _ => rfl)
    (fun b c l h => .inr ⟨n, c, l, rfl, by rw [hb]; rfl, by rw [hloc, h]⟩) rfl rfl rfl (Nat.le_refl _)
    (fun hR hι => hB.move hR hι fun p hp => by rw [hloc] at hp; cases hp; simp [upd])
  refine ⟨_, this.1, fun p hp => ?_, hfr⟩
  have e : upd ι S.fr loc n = ι n := by simp only [upd]; rw [if_neg (by omega)]
  rw [e, hloc] at hp
  cases hp
  simp [upd]
/-- The row in a cell of a block under a new name. -/
theorem AKp.anew {kk : List KI} {S : St} (n p j : Nat) {B : Blk} {T : TypeId} {cells : List AV} {k : Nat} (hb : look n S.h = some B) (hp : look p S.h = some (.cs T cells)) (hj : cells[j]? = some (.row n k)) (hpn : p ≠ n) (hlt : p < S.fr)
    (h : AKp P cx Q (kk, ⟨S.t, (p, .cs T (cells.set j (.row S.fr k))) :: del p ((S.fr, B) :: del n S.h), S.fr + 1⟩)) : AKp P cx Q (kk, S) := by
  intro ι a w H
  obtain ⟨ι', H', hn, _⟩ := H.anew hb
  have hp' : look p ((S.fr, B) :: del n S.h) = some (.cs T cells) := by
    rw [look_cons, if_neg (fun e => by simp at e; omega), look_del, if_neg hpn]
    exact hp
  refine h ι' a w (H'.redesc hp' fun hB => ?_)
  cases hB with
  | cs _ _ b cap l cur hi hbk hl h1 hr =>
    refine .cs _ _ b cap l cur hi hbk (by rw [List.length_set]; exact hl) h1 fun i c v hc hv => ?_
    rw [List.getElem?_set] at hc
    by_cases e : j = i
    · subst e
      have hlt : j < cells.length := (List.getElem?_eq_some_iff.1 hj).1
      rw [if_pos rfl, if_pos hlt] at hc
      obtain rfl := Option.some.inj hc
      exact rep_move hn (hr j _ v hj hv)
    · rw [if_neg e] at hc
      exact hr i c v hc hv
/-- The row in the last element of a row under a new name. -/
theorem AKp.anewX {kk : List KI} {S : St} (n p j : Nat) {B : Blk} {E : TypeId} {k0 m : Nat} {es : List Dat} {cells : List AV} {k : Nat} (hb : look n S.h = some B) (hp : look p S.h = some (.xs E k0 m es cells)) (hj : cells[j]? = some (.row n k)) (hpn : p ≠ n) (hlt : p < S.fr)
    (h : AKp P cx Q (kk, ⟨S.t, (p, .xs E k0 m es (cells.set j (.row S.fr k))) :: del p ((S.fr, B) :: del n S.h), S.fr + 1⟩)) : AKp P cx Q (kk, S) := by
  intro ι a w H
  obtain ⟨ι', H', hn, _⟩ := H.anew hb
  have hp' : look p ((S.fr, B) :: del n S.h) = some (.xs E k0 m es cells) := by
    rw [look_cons, if_neg (fun e => by simp at e; omega), look_del, if_neg hpn]
    exact hp
  refine h ι' a w (H'.redesc hp' fun hB => ?_)
  have hjl : j < cells.length := (List.getElem?_eq_some_iff.1 hj).1
  cases hB with
  | xs0 _ _ _ _ hi hk0 hkl h2 =>
    refine .xs0 _ _ _ _ hi hk0 (by rw [List.length_set]; exact hkl) fun i c hc => ?_
    rw [List.getElem?_set] at hc
    by_cases e : j = i
    · subst e
      rw [if_pos rfl, if_pos hjl] at hc
      obtain rfl := Option.some.inj hc
      exact (h2 j _ hj).imp fun v hv => rep_move hn hv
    · rw [if_neg e] at hc
      exact h2 i c hc
  | xs _ _ _ _ _ b cap cur hi hbk hl hcap hmx hk0 hlen hkl hk h1 hr hr2 =>
    refine .xs _ _ _ _ _ b cap cur hi hbk hl hcap hmx hk0 hlen (by rw [List.length_set]; exact hkl) hk h1 hr fun i c v hc hv => ?_
    rw [List.getElem?_set] at hc
    by_cases e : j = i
    · subst e
      rw [if_pos rfl, if_pos hjl] at hc
      obtain rfl := Option.some.inj hc
      exact rep_move hn (hr2 j _ v hj hv)
    · rw [if_neg e] at hc
      exact hr2 i c v hc hv
/-- A row without elements, out of nothing. -/
theorem AKp.newNil {kk : List KI} {S : St} (E : TypeId) (k : Nat) (hk : 0 < k) (h : AKp P cx Q (kk, ⟨S.t, (S.fr, .ds E k []) :: S.h, S.fr + 1⟩)) : AKp P cx Q (kk, S) := by
  intro ι a w H
  obtain ⟨ι', H', hz⟩ := H.fresh (w' := w) (n0 := none) (loc := .nil) (B := .ds E k []) (z := .row S.fr k) (v := .slice none 0 0) (fun b _ _ => rfl) (fun b c l h => by cases h) rfl rfl rfl (Nat.le_refl _)
    (fun R' ι' hR hι hi => .ds0 _ _ hi hk) (fun R' ι' hi => .row0 _ _ _ hi)
  exact h ι' a w H'
/-- A nil slice in a cell of a block is a row without elements; of the last one it is said what one likes. -/
theorem AKp.asX0 {kk : List KI} {S : St} (p j r : Nat) (E : TypeId) (k m : Nat) (cells : List AV) (hk : 0 < k) {T : TypeId} {cs : List AV} {Br : Blk} (hb : look p S.h = some (.cs T cs)) (hj : cs[j]? = some (.d (.s .sl0))) (hr : look r S.h = some Br)
    (hlen : cells.length = k) (hcs : ∀ (i : Nat) (c : AV), cells[i]? = some c → (∃ x : Sc, c = .d (.s x) ∧ x.ok) ∨ ∃ k2, c = .row r k2) (hn : p < S.fr)
    (h : AKp P cx Q (kk, ⟨S.t, (p, .cs T (cs.set j (.row S.fr k))) :: del p ((S.fr, .xs E k m [] cells) :: S.h), S.fr + 1⟩)) : AKp P cx Q (kk, S) := by
  intro ι a w H
  obtain ⟨lr, hlr⟩ := (H.hr.hp r Br hr).loc
  obtain ⟨ι', H', hz⟩ := H.fresh (w' := w) (n0 := none) (loc := .nil) (B := .xs E k m [] cells) (z := .row S.fr k) (v := .slice none 0 0) (fun b _ _ => rfl) (fun b c l h => by cases h) rfl rfl rfl (Nat.le_refl _)
    (fun R' ι' hR hι hi => .xs0 _ _ _ _ hi hk hlen fun i c hc => by
      rcases hcs i c hc with ⟨x, rfl, hx⟩ | ⟨k2, rfl⟩
      · exact ⟨_, .d _ _ (.s x hx)⟩
      · cases lr with
        | nil => exact ⟨.slice none 0 0, .row0 _ _ _ (hι _ _ hlr)⟩
        | blk b c l => exact ⟨_, .row _ _ _ _ _ (hι _ _ hlr)⟩) (fun R' ι' hi => .row0 _ _ _ hi)
  have hb' : look p ((S.fr, .xs E k m [] cells) :: S.h) = some (.cs T cs) := by
    rw [look_cons, if_neg (fun e => by simp at e; omega)]
    exact hb
  refine h ι' a w (H'.redesc hb' fun hB => ?_)
  cases hB with
  | cs _ _ b cap l cur hi hbk hl h1 hr =>
    refine .cs _ _ b cap l cur hi hbk (by rw [List.length_set]; exact hl) h1 fun i c v hc hv => ?_
    rw [List.getElem?_set] at hc
    by_cases e : j = i
    · subst e
      have hlt : j < cs.length := (List.getElem?_eq_some_iff.1 hj).1
      rw [if_pos rfl, if_pos hlt] at hc
      obtain rfl := Option.some.inj hc
      have := rep_s (hr j _ v hj hv)
      subst this
      exact hz
    · rw [if_neg e] at hc
      exact hr i c v hc hv
/-- Of a cell nothing is told any more. -/
theorem AKp.dim {kk : List KI} {S : St} (n j : Nat) {T : TypeId} {cells : List AV} (hb : look n S.h = some (.cs T cells)) (h : AKp P cx Q (kk, ⟨S.t, (n, .cs T (cells.set j .any)) :: del n S.h, S.fr⟩)) : AKp P cx Q (kk, S) := by
  intro ι a w H
  refine h ι a w (H.redesc hb fun hB => ?_)
  cases hB with
  | cs _ _ b cap l cur hi hbk hl h1 hr =>
    refine .cs _ _ b cap l cur hi hbk (by rw [List.length_set]; exact hl) h1 fun i c v hc hv => ?_
    rw [List.getElem?_set] at hc
    by_cases e : j = i
    · subst e
      have hlt : j < cells.length := by
        rw [← hl]
        exact (List.getElem?_eq_some_iff.1 hv).1
      rw [if_pos rfl, if_pos hlt] at hc
      obtain rfl := Option.some.inj hc
      exact .any v
    · rw [if_neg e] at hc
      exact hr i c v hc hv
theorem AKp.joinN {K k : List KI} (hK : K = k) {S : St} (S' : St) (h0 : cx.w0.fr ≤ S'.fr) (h1 : leT0 S'.fr S.t S'.t) (h2 : leH0 S'.fr S.h S'.h) (h : AK P cx Q K S') : AKp P cx Q (k, S) := by
  subst hK
  exact AK.keepL S' h0 h1 h2 h
/-- What is said of the elements behind the last one's cells does not matter. -/
theorem AKp.reX {kk : List KI} {S : St} (n : Nat) (es' : List Dat) {E : TypeId} {k m : Nat} {es : List Dat} {cells : List AV} (hb : look n S.h = some (.xs E k m es cells)) (hl' : es'.length = es.length) (hes : ∀ i, i < m → es'[i]? = es[i]?)
    (h : AKp P cx Q (kk, ⟨S.t, (n, .xs E k m es' cells) :: del n S.h, S.fr⟩)) : AKp P cx Q (kk, S) := by
  intro ι a w H
  refine h ι a w (H.redesc hb fun hB => ?_)
  cases hB with
  | xs0 _ _ _ _ hi hk0 hkl h2 =>
    obtain rfl : es' = [] := List.length_eq_zero_iff.1 hl'
    exact .xs0 _ _ _ _ hi hk0 hkl h2
  | xs _ _ _ _ _ b cap cur hi hbk hl hcap hmx hk0 hlen hkl hk h1 hr hr2 =>
    exact .xs _ _ _ _ _ b cap cur (by rw [hl']; exact hi) hbk hl (by rw [hl']; exact hcap) hmx hk0 (by rw [hl', hlen]) hkl (fun i e hlt hie => hk i e hlt (by rw [← hes i hlt]; exact hie)) (by rw [hl']; exact h1)
      (fun i e j c v hlt hie hc hv => hr i e j c v hlt (by rw [← hes i hlt]; exact hie) hc hv) hr2
end
end Go.Ua

