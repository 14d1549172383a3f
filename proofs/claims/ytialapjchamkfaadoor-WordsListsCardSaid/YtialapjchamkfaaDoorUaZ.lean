/- Values told with less, and ends with more than one result. A library of this claim's own: no statement stands in it. -/
import Derived.Test.YtialapjchamkfaaDoorUaY
namespace Go.Ua
open Go Go.Proofs
set_option linter.unusedVariables false
set_option linter.unusedSimpArgs false

mutual
/-- What is said of a value by the second is said by the first, too: a nil slice is an empty one. -/
inductive LeD : Dat → Dat → Prop
  | refl (x : Dat) : LeD x x
  | nil (k : Nat) : LeD (.s .sl0) (.view k [])
  | agg {cs ds : List Dat} : LesD cs ds → LeD (.agg cs) (.agg ds)
  | view {k : Nat} {cs ds : List Dat} : LesD cs ds → LeD (.view k cs) (.view k ds)
inductive LesD : List Dat → List Dat → Prop
  | nil : LesD [] []
  | cons {x y : Dat} {cs ds : List Dat} : LeD x y → LesD cs ds → LesD (x :: cs) (y :: ds)
end

theorem LesD.get : ∀ {cs ds : List Dat}, LesD cs ds → cs.length = ds.length ∧ ∀ (i : Nat) (y : Dat), ds[i]? = some y → ∃ x, cs[i]? = some x ∧ LeD x y
  | _, _, .nil => ⟨rfl, by simp⟩
  | _, _, .cons h t => by
    obtain ⟨h1, h2⟩ := t.get
    refine ⟨by simp [h1], fun i y hy => ?_⟩
    cases i with
    | zero => simp only [List.getElem?_cons_zero, Option.some.injEq] at hy; subst hy; exact ⟨_, rfl, h⟩
    | succ i => simpa using h2 i y (by simpa using hy)

theorem LeD.cells {x y : Dat} (h : LeD x y) : x.cells.length = y.cells.length ∧ ∀ (i : Nat) (d : Dat), y.cells[i]? = some d → ∃ c, x.cells[i]? = some c ∧ LeD c d := by
  cases h with
  | refl => exact ⟨rfl, fun i d hd => ⟨d, hd, .refl d⟩⟩
  | nil k => exact ⟨rfl, fun i d hd => by
      cases i with
      | zero => simp only [Dat.cells, List.getElem?_cons_zero, Option.some.injEq] at hd; subst hd; exact ⟨_, rfl, .nil k⟩
      | succ i => simp [Dat.cells] at hd⟩
  | agg h => exact h.get
  | view h => exact ⟨rfl, fun i d hd => by
      cases i with
      | zero => simp only [Dat.cells, List.getElem?_cons_zero, Option.some.injEq] at hd; subst hd; exact ⟨_, rfl, .view h⟩
      | succ i => simp [Dat.cells] at hd⟩

theorem LeD.rep {R : Rd} {x : Dat} {v : Value} (hr : RepD R x v) : ∀ {y : Dat}, LeD x y → RepD R y v := by
  induction hr with
  | s a ho =>
    intro y h
    cases h with
    | refl => exact .s a ho
    | nil k => exact .nil k
  | agg cs vs hl h1 hh ih =>
    intro y h
    cases h with
    | refl => exact .agg cs vs hl h1 hh
    | agg h =>
      obtain ⟨g1, g2⟩ := h.get
      refine .agg _ vs (by rw [← g1]; exact hl) h1 fun i d v hd hv => ?_
      obtain ⟨c, hc, hle⟩ := g2 i d hd
      exact ih i c v hc hv hle
  | nil k =>
    intro y h
    cases h with
    | refl => exact .nil k
    | view h => cases h; exact .nil k
  | view k es a cap f hc hm hsp hk hr hh ih =>
    intro y h
    cases h with
    | refl => exact .view k es a cap f hc hm hsp hk hr hh
    | @view _ _ ds h =>
      obtain ⟨g1, g2⟩ := h.get
      rw [g1]
      refine .view k _ a cap f (by rw [← g1]; exact hc) hm (fun hne => hsp fun e => hne ?_) (fun i e he => ?_) (fun i e j c he hcj => ?_) (fun i e j c he hcj => ?_)
      · subst e
        exact List.eq_nil_of_length_eq_zero (by simpa using g1.symm)
      · obtain ⟨e0, h0, hle⟩ := g2 i e he
        rw [← hle.cells.1]
        exact hk i e0 h0
      · obtain ⟨e0, h0, hle⟩ := g2 i e he
        obtain ⟨c0, h1, _⟩ := hle.cells.2 j c hcj
        exact hr i e0 j c0 h0 h1
      · obtain ⟨e0, h0, hle⟩ := g2 i e he
        obtain ⟨c0, h1, hle1⟩ := hle.cells.2 j c hcj
        exact ih i e0 j c0 h0 h1 hle1
  | iface t x v hh ih =>
    intro y h
    cases h with
    | refl => exact .iface t x v hh
  | vref cs b o f hr hh ih =>
    intro y h
    cases h with
    | refl => exact .vref cs b o f hr hh

section
variable {P : Program} [Globs P] {τ : Tab} {cx : Cx P} {Q : Exit → Act → World → Prop}

/-- A slot told with less. -/
theorem AKp.retell {kk : List KI} {S : St} (i : Nat) {x : Dat} (y : Dat) (hx : look i S.t = some (.d x)) (hle : LeD x y) (h : AKp P cx Q (kk, ⟨(i, .d y) :: del i S.t, S.h, S.fr⟩)) : AKp P cx Q (kk, S) := by
  intro ι a w H
  refine h ι a w ⟨H.hr, fun t z hz => ?_, H.sz, H.df⟩
  simp only [look_cons, look_del] at hz
  split at hz
  · rename_i e
    obtain rfl := Option.some.inj hz
    subst e
    have := H.tm _ _ hx
    cases this with
    | d _ _ hd => exact .d _ _ (LeD.rep hd hle)
  · split at hz
    · cases hz
    · exact H.tm t z hz

theorem AKp.doneX {fn : Func} {Qr : AV → List (Nat × Blk) → Nat → Prop} (hτ : TabOK P τ) {S : St} {l : List AV} {x : AV} (hres : resAV τ S fn.results.toList = some l) (hx : tupAV l = x) (hlt : x.lt 0 = true) (h0 : cx.w0.fr = 0)
    (hQ : Qr x [] 0) {k : List KI} : AKp P cx (fin P fn cx Qr) (.code .ret :: k, S) :=
  AK.ret fun ι a w H => (fin_of (cx := cx) hτ hres id (x := x) (h' := []) (fr' := 0) (by rw [ren_id]; exact hx) hlt (fun n hn => by omega) (fun n B h => by simp [look] at h) (fun n m h => by simp [look] at h) hQ ι a w H).1

/-- So many steps. -/
theorem AK.runN {F : Fam} (hF : F = Fam.real) (hτ : TabOK P τ) {n : Nat} (hn : cx.nt = n) (m : Nat) {k : List KI} {S : St} (h : AKp P cx Q (runC (Ar.of F) τ n m k S)) : AK P cx Q k S := by
  subst hF
  subst hn
  exact AK.step hτ _ k S h

end
end Go.Ua
