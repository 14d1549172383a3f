/- The library of this claim and its walks, part 29, joined out of smaller texts. No statement stands in it. -/
import Derived.Test.YtflpgbkdjelaaaaDoorUaM25
import Derived.Test.YtflpgbkdjelaaaaDoorUaM28
/- A formed configuration is told in lines, and read as it was told: plain laws. -/
namespace Go.Proofs.YtflpgbkdjelaaaaDoor
open Go Go.Proofs Go.Ua Go.Extern
set_option linter.unusedVariables false
set_option linter.unusedSimpArgs false

def digI (n : Int) : Wd := Lib.decDigits n.toNat
def borW (b : Int) : Wd := if b = -1 then ALLW else digI b
def byW (b : Int) : Wd := if b = 1 then USER else if b = 2 then SPACE else NONE
def levW (l : Lv) : List Wd :=
  if l.kd = 1 then [LEVEL, l.nm, EXEMPT]
  else if l.kd = 2 then [LEVEL, l.nm, digI l.sh, digI l.ld, borW l.bo, REJECT]
  else [LEVEL, l.nm, digI l.sh, digI l.ld, borW l.bo, QUEUE, digI l.qu, digI l.ha, digI l.le, digI l.wa, digI l.gu]
def rulW (r : Rl) : List Wd := [RULE, joinF r.us, joinF r.gs, joinF r.vs, joinF r.rs, joinF r.ps]
def sch1 (s : Sm) : List Wd := [SCHEMA, s.nm, s.lv, digI s.rk, byW s.bb]
def schW (s : Sm) : List (List Wd) := sch1 s :: s.rl.map rulW
def headW (c : Cf) : List (List Wd) := (if c.tt = 0 then [] else [[TOTAL, digI c.tt]]) ++ ((if c.pe = 0 then [] else [[PERIOD, digI c.pe]]) ++ (if c.pr = 0 then [] else [[SEATS, digI c.pr, digI c.mo]]))
def cfW (c : Cf) : List (List Wd) := headW c ++ (c.ls.map levW ++ (c.ss.map schW).flatten)

/-- Lines, one by one. -/
def runL : Cf → List (List Wd) → Option Cf
  | c, [] => some c
  | c, w :: r => if linE c w = 0 then runL (linA c w) r else none
theorem runL_app : ∀ (a : List (List Wd)) (c : Cf) (b : List (List Wd)), runL c (a ++ b) = (runL c a).bind fun d => runL d b
  | [], c, b => rfl
  | w :: a, c, b => by
    simp only [List.cons_append, runL]
    split
    · exact runL_app a _ b
    · rfl
theorem zero_formed : formC zeroC = true := by decide

theorem tot_line {c : Cf} {n : Int} (h0 : c.tt = 0) (h : inB n 1 4096 = true) : linE c [TOTAL, digI n] = 0 ∧ linA c [TOTAL, digI n] = { c with tt := n } := by
  obtain ⟨g1, g2⟩ := num_of (a := 1) (by decide) (by decide) h
  refine ⟨?_, ?_⟩
  · show (if TOTAL = TOTAL then totE c [TOTAL, digI n] else _) = 0
    rw [if_pos rfl, totE, if_neg (by simp), if_neg, if_neg (by simp [h0])]
    show ¬ numB (digI n) 1 4096 = false
    rw [digI, g1]; decide
  · show (if TOTAL = TOTAL then { c with tt := numV (digI n) 1 4096 } else _) = _
    rw [if_pos rfl, digI, g2]
theorem per_line {c : Cf} {n : Int} (h0 : c.pe = 0) (h : inB n 1 1000 = true) : linE c [PERIOD, digI n] = 0 ∧ linA c [PERIOD, digI n] = { c with pe := n } := by
  obtain ⟨g1, g2⟩ := num_of (a := 1) (by decide) (by decide) h
  refine ⟨?_, ?_⟩
  · show (if PERIOD = TOTAL then _ else if PERIOD = PERIOD then perE c [PERIOD, digI n] else _) = 0
    rw [if_neg (by decide), if_pos rfl, perE, if_neg (by simp), if_neg, if_neg (by simp [h0])]
    show ¬ numB (digI n) 1 1000 = false
    rw [digI, g1]; decide
  · show (if PERIOD = TOTAL then _ else if PERIOD = PERIOD then { c with pe := numV (digI n) 1 1000 } else _) = _
    rw [if_neg (by decide), if_pos rfl, digI, g2]
theorem sea_line {c : Cf} {n m : Int} (h0 : c.pr = 0) (h : inB n 1 1048576 = true) (hm : inB m 1 16 = true) : linE c [SEATS, digI n, digI m] = 0 ∧ linA c [SEATS, digI n, digI m] = { c with pr := n, mo := m } := by
  obtain ⟨g1, g2⟩ := num_of (a := 1) (by decide) (by decide) h
  obtain ⟨g3, g4⟩ := num_of (a := 1) (by decide) (by decide) hm
  refine ⟨?_, ?_⟩
  · show (if SEATS = TOTAL then _ else if SEATS = PERIOD then _ else if SEATS = SEATS then seaE c [SEATS, digI n, digI m] else _) = 0
    rw [if_neg (by decide), if_neg (by decide), if_pos rfl, seaE, if_neg (by simp), if_neg, if_neg (by simp [h0])]
    show ¬ (numB (digI n) 1 1048576 && numB (digI m) 1 16) = false
    rw [digI, digI, g1, g3]; decide
  · show (if SEATS = TOTAL then _ else if SEATS = PERIOD then _ else if SEATS = SEATS then { c with pr := numV (digI n) 1 1048576, mo := numV (digI m) 1 16 } else _) = _
    rw [if_neg (by decide), if_neg (by decide), if_pos rfl, digI, digI, g2, g4]

theorem bor_of {b : Int} (h : inB b (-1) 1000 = true) : borB (borW b) = true ∧ borV (borW b) = b := by
  unfold borW
  split
  · rename_i e
    exact ⟨rfl, by rw [e]; rfl⟩
  · rename_i hne
    have h' : inB b 0 1000 = true := by simp only [inB, Bool.and_eq_true, decide_eq_true_eq] at h ⊢; omega
    obtain ⟨g1, g2⟩ := num_of (a := 0) (by decide) (by decide) h'
    have hn : digI b ≠ ALLW := fun e => by
      have := allW_no 0 1000
      rw [← e, digI, g1] at this
      cases this
    exact ⟨by rw [borB, decide_eq_false hn, digI, g1]; rfl, by rw [borV, if_neg hn, digI, g2]⟩

theorem inB_iff {n a b : Int} : inB n a b = true ↔ a ≤ n ∧ n ≤ b := by simp [inB]
theorem lev_line {c : Cf} {l : Lv} (h : levOK l = true) (h1 : hasL c.ls l.nm = false) (h2 : c.ls.length < 16) : linE c (levW l) = 0 ∧ linA c (levW l) = { c with ls := c.ls ++ [l] } := by
  have w0 : wAt (levW l) 0 = LEVEL := by unfold levW; split; rfl; split; rfl; rfl
  have w1 : wAt (levW l) 1 = l.nm := by unfold levW; split; rfl; split; rfl; rfl
  have hn : nameF l.nm = true := by simp only [levOK, Bool.and_eq_true] at h; exact h.1
  have key : ∀ k, kindL (levW l) = k → k ≠ 0 → (k ≠ 1 → limB (levW l) = true) → (k = 3 → queB (levW l) = true) → lvOf (levW l) = l → linE c (levW l) = 0 ∧ linA c (levW l) = { c with ls := c.ls ++ [l] } := by
    intro k hk k0 hl hq hv
    refine ⟨?_, ?_⟩
    · unfold linE
      rw [w0, if_neg (by decide), if_neg (by decide), if_neg (by decide), if_pos rfl, levE, hk, w1, if_neg k0, if_neg (by rw [hn]; decide), if_neg, if_neg, if_neg (by rw [h1]; decide), if_neg (by omega)]
      · rintro ⟨a, b⟩; rw [hq a] at b; cases b
      · rintro ⟨a, b⟩; rw [hl a] at b; cases b
    · unfold linA
      rw [w0, if_neg (by decide), if_neg (by decide), if_neg (by decide), if_pos rfl, hv]
  obtain ⟨nm, kd, sh, ld, bo, qu, ha, le, wa, gu⟩ := l
  simp only [levOK, Bool.and_eq_true] at h
  obtain ⟨_, h⟩ := h
  split at h
  · rename_i e
    try simp only at e
    subst e
    simp only [Bool.and_eq_true, decide_eq_true_eq] at h
    obtain ⟨rfl, rfl, rfl, rfl, rfl, rfl, rfl, rfl⟩ := h
    exact key 1 rfl (by decide) (fun h => absurd rfl h) (fun h => by cases h) rfl
  split at h
  · rename_i e0 e
    try simp only at e
    subst e
    simp only [Bool.and_eq_true, decide_eq_true_eq] at h
    obtain ⟨⟨rfl, rfl, rfl, rfl, rfl⟩, g1, g2, g3⟩ := h
    obtain ⟨a1, a2⟩ := num_of (a := 0) (by decide) (by decide) g1
    obtain ⟨b1, b2⟩ := num_of (a := 0) (by decide) (by decide) g2
    obtain ⟨d1, d2⟩ := bor_of g3
    have hk : kindL (levW ⟨nm, 2, sh, ld, bo, 0, 0, 0, 0, 0⟩) = 2 := by
      unfold kindL levW
      simp [wAt]
    refine key 2 hk (by decide) (fun _ => ?_) (fun h => by cases h) ?_
    · show (numB (digI sh) 0 10000 && (numB (digI ld) 0 100 && borB (borW bo))) = true
      rw [digI, digI, a1, b1, d1]; rfl
    · unfold lvOf
      rw [hk, if_neg (by decide), if_pos rfl]
      show Lv.mk nm 2 (numV (digI sh) 0 10000) (numV (digI ld) 0 100) (borV (borW bo)) 0 0 0 0 0 = _
      rw [digI, digI, a2, b2, d2]
  split at h
  · rename_i e0 e1 e
    try simp only at e
    subst e
    simp only [Bool.and_eq_true] at h
    obtain ⟨⟨q1, q2, q3, q4, q5⟩, g1, g2, g3⟩ := h
    obtain ⟨a1, a2⟩ := num_of (a := 0) (by decide) (by decide) g1
    obtain ⟨b1, b2⟩ := num_of (a := 0) (by decide) (by decide) g2
    obtain ⟨d1, d2⟩ := bor_of g3
    obtain ⟨r1, s1⟩ := num_of (a := 1) (by decide) (by decide) q1
    obtain ⟨r2, s2⟩ := num_of (a := 1) (by decide) (by decide) q2
    obtain ⟨r3, s3⟩ := num_of (a := 1) (by decide) (by decide) q3
    obtain ⟨r4, s4⟩ := num_of (a := 1) (by decide) (by decide) q4
    obtain ⟨r5, s5⟩ := num_of (a := 1) (by decide) (by decide) q5
    have hk : kindL (levW ⟨nm, 3, sh, ld, bo, qu, ha, le, wa, gu⟩) = 3 := by
      unfold kindL levW
      simp [wAt]
    refine key 3 hk (by decide) (fun _ => ?_) (fun _ => ?_) ?_
    · show (numB (digI sh) 0 10000 && (numB (digI ld) 0 100 && borB (borW bo))) = true
      rw [digI, digI, a1, b1, d1]; rfl
    · show (numB (digI qu) 1 64 && (numB (digI ha) 1 8 && (numB (digI le) 1 64 && (numB (digI wa) 1 1000 && numB (digI gu) 1 1000)))) = true
      simp only [digI]
      rw [r1, r2, r3, r4, r5]; rfl
    · unfold lvOf
      rw [hk, if_neg (by decide), if_neg (by decide)]
      show Lv.mk nm 3 (numV (digI sh) 0 10000) (numV (digI ld) 0 100) (borV (borW bo)) (numV (digI qu) 1 64) (numV (digI ha) 1 8) (numV (digI le) 1 64) (numV (digI wa) 1 1000) (numV (digI gu) 1 1000) = _
      simp only [digI]
      rw [a2, b2, d2, s1, s2, s3, s4, s5]
  · cases h

theorem by_of {b : Int} (h : inB b 0 2 = true) : byB (byW b) = true ∧ byV (byW b) = b := by
  rw [inB_iff] at h
  have : b = 0 ∨ b = 1 ∨ b = 2 := by omega
  rcases this with rfl | rfl | rfl <;> exact ⟨rfl, rfl⟩
theorem sch_line {c : Cf} {s : Sm} (h : smOK s = true) (h1 : hasM c.ss s.nm = false) (h2 : c.ss.length < 32) : linE c (sch1 s) = 0 ∧ linA c (sch1 s) = { c with ss := c.ss ++ [⟨s.nm, s.lv, s.rk, s.bb, []⟩] } := by
  simp only [smOK, Bool.and_eq_true] at h
  obtain ⟨n1, n2, r, b, _, _⟩ := h
  obtain ⟨a1, a2⟩ := num_of (a := 1) (by decide) (by decide) r
  obtain ⟨b1, b2⟩ := by_of b
  refine ⟨?_, ?_⟩
  · show (if SCHEMA = TOTAL then _ else if SCHEMA = PERIOD then _ else if SCHEMA = SEATS then _ else if SCHEMA = LEVEL then _ else if SCHEMA = SCHEMA then schE c (sch1 s) else _) = 0
    rw [if_neg (by decide), if_neg (by decide), if_neg (by decide), if_neg (by decide), if_pos rfl, schE, if_neg (by simp [sch1]), if_neg, if_neg, if_neg, if_neg, if_neg (by omega)]
    · show ¬ hasM c.ss s.nm = true; rw [h1]; decide
    · show ¬ byB (byW s.bb) = false; rw [b1]; decide
    · show ¬ numB (digI s.rk) 1 10000 = false; rw [digI, a1]; decide
    · show ¬ (nameF s.nm && nameF s.lv) = false; rw [n1, n2]; decide
  · show (if SCHEMA = TOTAL then _ else if SCHEMA = PERIOD then _ else if SCHEMA = SEATS then _ else if SCHEMA = LEVEL then _ else if SCHEMA = SCHEMA then { c with ss := c.ss ++ [smOf (sch1 s)] } else _) = _
    rw [if_neg (by decide), if_neg (by decide), if_neg (by decide), if_neg (by decide), if_pos rfl]
    show { c with ss := c.ss ++ [Sm.mk s.nm s.lv (numV (digI s.rk) 1 10000) (byV (byW s.bb)) []] } = _
    rw [digI, a2, b2]
theorem lis_of {l : List Wd} (h : goodF l = true) : listB (joinF l) = true ∧ lisV (joinF l) = l ∧ joinF l ≠ [] := by
  have hne : joinF l ≠ [] := by
    unfold joinF
    rw [if_pos h]
    split
    · simp
    · rename_i hl
      obtain ⟨x, r, rfl⟩ := List.exists_cons_of_ne_nil hl
      intro e
      have hx : x ≠ [] := by
        unfold goodF at h
        simp only [Bool.or_eq_true, Bool.and_eq_true, beq_iff_eq] at h
        rcases h with h | h
        · injection h with h _; rw [h]; simp
        · have := List.all_eq_true.1 h.1.1 x (by simp)
          exact (word_parts this).1
      cases r with
      | nil => rw [Lib.join_one] at e; exact hx e
      | cons y r => rw [join_cons2] at e; simp at e
  have := list_join hne
  exact ⟨by rw [listB, this]; rfl, by rw [lisV, this]; rfl, hne⟩
theorem rul_line {c : Cf} {a : List Sm} {s : Sm} {r : Rl} (hs : c.ss = a ++ [s]) (hr : rlOK r = true) (hl : s.rl.length < 8) : linE c (rulW r) = 0 ∧ linA c (rulW r) = { c with ss := a ++ [⟨s.nm, s.lv, s.rk, s.bb, s.rl ++ [r]⟩] } := by
  simp only [rlOK, Bool.and_eq_true] at hr
  obtain ⟨g1, g2, g3, g4, g5⟩ := hr
  obtain ⟨a1, b1, _⟩ := lis_of g1
  obtain ⟨a2, b2, _⟩ := lis_of g2
  obtain ⟨a3, b3, _⟩ := lis_of g3
  obtain ⟨a4, b4, _⟩ := lis_of g4
  obtain ⟨a5, b5, _⟩ := lis_of g5
  have hla : lastR c = s.rl := by rw [lastR, hs]; simp
  refine ⟨?_, ?_⟩
  · show (if RULE = TOTAL then _ else if RULE = PERIOD then _ else if RULE = SEATS then _ else if RULE = LEVEL then _ else if RULE = SCHEMA then _ else if RULE = RULE then rulE c (rulW r) else _) = 0
    rw [if_neg (by decide), if_neg (by decide), if_neg (by decide), if_neg (by decide), if_neg (by decide), if_pos rfl, rulE, if_neg, if_neg, if_neg]
    · rw [hla]; omega
    · show ¬ (listB (joinF r.us) && (listB (joinF r.gs) && (listB (joinF r.vs) && (listB (joinF r.rs) && listB (joinF r.ps))))) = false
      rw [a1, a2, a3, a4, a5]; decide
    · rw [hs]; simp [rulW]
  · show (if RULE = TOTAL then _ else if RULE = PERIOD then _ else if RULE = SEATS then _ else if RULE = LEVEL then _ else if RULE = SCHEMA then _ else { c with ss := addR c.ss (rlOf (rulW r)) }) = _
    rw [if_neg (by decide), if_neg (by decide), if_neg (by decide), if_neg (by decide), if_neg (by decide)]
    have : rlOf (rulW r) = r := by
      show Rl.mk (lisV (joinF r.us)) (lisV (joinF r.gs)) (lisV (joinF r.vs)) (lisV (joinF r.rs)) (lisV (joinF r.ps)) = r
      rw [b1, b2, b3, b4, b5]
    rw [this, hs, addR]
    simp

theorem run_levels : ∀ (b : List Lv) (c : Cf), allL [] (c.ls ++ b) = true → c.ls.length + b.length ≤ 16 → runL c (b.map levW) = some { c with ls := c.ls ++ b }
  | [], c, h, hl => by simp [runL]
  | x :: b, c, h, hl => by
    have h' := h
    rw [allL_app] at h'
    simp only [allL, List.nil_append, Bool.and_eq_true, Bool.not_eq_eq_eq_not, Bool.not_true] at h'
    obtain ⟨_, h1, h2, _⟩ := h'
    simp only [List.length_cons] at hl
    obtain ⟨g1, g2⟩ := lev_line h1 h2 (by omega)
    rw [List.map_cons, runL, if_pos g1, g2, run_levels b _ (by simpa using h) (by simp; omega)]
    simp
theorem run_rules : ∀ (q : List Rl) (c : Cf) (a : List Sm) (s : Sm), c.ss = a ++ [s] → q.all rlOK = true → s.rl.length + q.length ≤ 8 → runL c (q.map rulW) = some { c with ss := a ++ [⟨s.nm, s.lv, s.rk, s.bb, s.rl ++ q⟩] }
  | [], c, a, s, hs, h, hl => by simp [runL, ← hs]
  | x :: q, c, a, s, hs, h, hl => by
    simp only [List.all_cons, Bool.and_eq_true] at h
    simp only [List.length_cons] at hl
    obtain ⟨g1, g2⟩ := rul_line hs h.1 (by omega)
    rw [List.map_cons, runL, if_pos g1, g2, run_rules q _ a _ rfl h.2 (by simp; omega)]
    simp
theorem run_schemas : ∀ (b : List Sm) (c : Cf), allM [] (c.ss ++ b) = true → c.ss.length + b.length ≤ 32 → runL c (b.map schW).flatten = some { c with ss := c.ss ++ b }
  | [], c, h, hl => by simp [runL]
  | x :: b, c, h, hl => by
    have h' := h
    rw [allM_app] at h'
    simp only [allM, List.nil_append, Bool.and_eq_true, Bool.not_eq_eq_eq_not, Bool.not_true] at h'
    obtain ⟨_, h1, h2, _⟩ := h'
    simp only [List.length_cons] at hl
    obtain ⟨g1, g2⟩ := sch_line h1 h2 (by omega)
    have hx := h1
    simp only [smOK, Bool.and_eq_true, decide_eq_true_eq] at hx
    obtain ⟨_, _, _, _, hx5, hx6⟩ := hx
    rw [List.map_cons, List.flatten_cons, runL_app, schW, runL, if_pos g1, g2, run_rules x.rl _ c.ss ⟨x.nm, x.lv, x.rk, x.bb, []⟩ rfl hx6 (by simpa using hx5)]
    simp only [Option.bind_some, List.nil_append]
    rw [run_schemas b _ (by simpa using h) (by simp; omega)]
    simp
/-- What is told is read as it was. -/
theorem run_told {c : Cf} (h : formC c = true) : runL zeroC (cfW c) = some c := by
  simp only [formC, Bool.and_eq_true, decide_eq_true_eq] at h
  obtain ⟨c1, c2, c3, c4, c5, c6, c7, c8, c9⟩ := h
  rw [inB_iff] at c1 c2 c3 c4
  have hh : runL zeroC (headW c) = some ⟨c.tt, c.pe, c.pr, c.mo, [], []⟩ := by
    unfold headW
    have t1 : runL zeroC (if c.tt = 0 then [] else [[TOTAL, digI c.tt]]) = some ⟨c.tt, 0, 0, 0, [], []⟩ := by
      split
      · rename_i e; rw [e]; rfl
      · obtain ⟨g1, g2⟩ := tot_line (c := zeroC) (n := c.tt) rfl (by rw [inB_iff]; omega)
        rw [runL, if_pos g1, g2]; rfl
    have t2 : runL ⟨c.tt, 0, 0, 0, [], []⟩ (if c.pe = 0 then [] else [[PERIOD, digI c.pe]]) = some ⟨c.tt, c.pe, 0, 0, [], []⟩ := by
      split
      · rename_i e; rw [e]; rfl
      · obtain ⟨g1, g2⟩ := per_line (c := ⟨c.tt, 0, 0, 0, [], []⟩) (n := c.pe) rfl (by rw [inB_iff]; omega)
        rw [runL, if_pos g1, g2]; rfl
    have t3 : runL ⟨c.tt, c.pe, 0, 0, [], []⟩ (if c.pr = 0 then [] else [[SEATS, digI c.pr, digI c.mo]]) = some ⟨c.tt, c.pe, c.pr, c.mo, [], []⟩ := by
      split
      · rename_i e; rw [e, c5.1 e]; rfl
      · rename_i e
        have : ¬ c.mo = 0 := fun h => e (c5.2 h)
        obtain ⟨g1, g2⟩ := sea_line (c := ⟨c.tt, c.pe, 0, 0, [], []⟩) (n := c.pr) (m := c.mo) rfl (by rw [inB_iff]; omega) (by rw [inB_iff]; omega)
        rw [runL, if_pos g1, g2]; rfl
    rw [runL_app, t1, Option.bind_some, runL_app, t2, Option.bind_some, t3]
  rw [cfW, runL_app, hh, Option.bind_some, runL_app, run_levels c.ls _ (by simpa using c8) (by simpa using c6), Option.bind_some, run_schemas c.ss _ (by simpa using c9) (by simpa using c7)]
  simp
end Go.Proofs.YtflpgbkdjelaaaaDoor

/- Lines of words: plain laws; lists of bytes. -/
namespace Go.Proofs.YtflpgbkdjelaaaaDoor
open Go Go.Proofs Go.Ua Go.Extern
set_option linter.unusedVariables false
set_option linter.unusedSimpArgs false

theorem word_no {w : List UInt8} (h : wordF w = true) : w ≠ [] ∧ (32 : UInt8) ∉ w ∧ (10 : UInt8) ∉ w := by
  refine ⟨(word_parts h).1, fun hm => ?_, fun hm => ?_⟩
  · rw [wordF_no hm (.inr (.inl rfl))] at h; cases h
  · rw [wordF_no hm (.inr (.inr rfl))] at h; cases h
def linesOf (ws : List (List UInt8)) : List UInt8 := (ws.map fun w => w ++ [10]).flatten
end Go.Proofs.YtflpgbkdjelaaaaDoor

/- The lines of a configuration as the document tells them; what is formed by them: plain laws. -/
namespace Go.Proofs.YtflpgbkdjelaaaaDoor
open Go Go.Proofs Go.Ua Go.Extern
set_option linter.unusedVariables false
set_option linter.unusedSimpArgs false

/-- No blank, no newline, not empty. -/
def clean (w : Wd) : Prop := w ≠ [] ∧ (32 : UInt8) ∉ w ∧ (10 : UInt8) ∉ w
theorem clean_name {w : Wd} (h : nameF w = true) : clean w := word_no (word_of_name h)
theorem clean_dig (n : Int) : clean (digI n) := by
  have h := dig_all n.toNat
  rw [List.all_eq_true] at h
  refine ⟨fun e => ?_, fun hm => ?_, fun hm => ?_⟩
  · have := dig_pos n.toNat; rw [digI] at e; rw [e] at this; simp at this
  · have := h _ hm; revert this; decide
  · have := h _ hm; revert this; decide
theorem join_mem {c d : UInt8} : ∀ {l : List Wd}, d ∈ Lib.join l [c] → d = c ∨ ∃ p, p ∈ l ∧ d ∈ p
  | [], h => by simp [Lib.join, List.intercalate] at h
  | [x], h => by rw [Lib.join_one] at h; exact .inr ⟨x, by simp, h⟩
  | x :: y :: r, h => by
    rw [join_cons2] at h
    rcases List.mem_append.1 h with h | h
    · exact .inr ⟨x, by simp, h⟩
    · rcases List.mem_cons.1 h with h | h
      · exact .inl h
      · rcases join_mem h with h | ⟨p, h1, h2⟩
        · exact .inl h
        · exact .inr ⟨p, List.mem_cons_of_mem _ h1, h2⟩
theorem clean_join {l : List Wd} (h : goodF l = true) : clean (joinF l) := by
  have hne := (lis_of h).2.2
  have no : ∀ c : UInt8, c = 32 ∨ c = 10 → c ∉ joinF l := by
    intro c hc hm
    have hd : c = 44 ∨ c = 32 ∨ c = 10 := .inr hc
    unfold joinF at hm
    rw [if_pos h] at hm
    split at hm
    · rcases hc with rfl | rfl <;> revert hm <;> decide
    · rcases join_mem hm with e | ⟨p, hp, hcp⟩
      · rcases hc with rfl | rfl <;> cases e
      · unfold goodF at h
        simp only [Bool.or_eq_true, Bool.and_eq_true, beq_iff_eq] at h
        rcases h with h | h
        · rw [h] at hp
          simp only [List.mem_singleton] at hp
          rw [hp] at hcp
          rcases hc with rfl | rfl <;> revert hcp <;> decide
        · have := List.all_eq_true.1 h.1.1 p hp
          rw [wordF_no hcp hd] at this
          cases this
  exact ⟨hne, no 32 (.inl rfl), no 10 (.inr rfl)⟩
theorem clean_by {b : Int} : clean (byW b) := by
  unfold byW clean
  split
  · decide
  · split <;> decide
theorem clean_bor {b : Int} : clean (borW b) := by
  unfold borW
  split
  · unfold clean; decide
  · exact clean_dig b

theorem words_join : ∀ {ws : List Wd}, (∀ w, w ∈ ws → clean w) → wordsF (Lib.join ws [32]) = ws
  | [], _ => rfl
  | [x], h => by
    obtain ⟨h1, h2, _⟩ := h x (by simp)
    rw [Lib.join_one]
    have := words_none h2
    rw [if_neg h1] at this
    exact this
  | x :: y :: r, h => by
    obtain ⟨h1, h2, _⟩ := h x (by simp)
    rw [join_cons2]
    have := words_app (Lib.join (y :: r) [32]) h2
    rw [if_neg h1] at this
    rw [show wordsF (x ++ 32 :: Lib.join (y :: r) [32]) = [x] ++ wordsF (Lib.join (y :: r) [32]) from this, words_join fun w hw => h w (List.mem_cons_of_mem _ hw)]
    rfl
/-! ### The lines -/
def digR (n : Int) : Wd := if n < 0 then [63] else digI n
def lisR (l : List Wd) : Wd := if joinF l = [] then [63] else joinF l
def borR (b : Int) : Wd := if b = -1 then ALLW else digR b
def limR (l : Lv) : Wd := [32] ++ digR l.sh ++ [32] ++ digR l.ld ++ [32] ++ borR l.bo
def queR (l : Lv) : Wd := [32, 113, 117, 101, 117, 101, 32] ++ digR l.qu ++ [32] ++ digR l.ha ++ [32] ++ digR l.le ++ [32] ++ digR l.wa ++ [32] ++ digR l.gu
def levR (l : Lv) : Wd := [108, 101, 118, 101, 108, 32] ++ l.nm ++
  (if l.kd = 1 then [32, 101, 120, 101, 109, 112, 116] else if l.kd = 2 then limR l ++ [32, 114, 101, 106, 101, 99, 116] else if l.kd = 3 then limR l ++ queR l else [])
def byR (b : Int) : Wd := if b = 0 then NONE else if b = 1 then USER else if b = 2 then SPACE else [63]
def schR (s : Sm) : Wd := [115, 99, 104, 101, 109, 97, 32] ++ s.nm ++ [32] ++ s.lv ++ [32] ++ digR s.rk ++ [32] ++ byR s.bb
def rulR (r : Rl) : Wd := [114, 117, 108, 101, 32] ++ lisR r.us ++ [32] ++ lisR r.gs ++ [32] ++ lisR r.vs ++ [32] ++ lisR r.rs ++ [32] ++ lisR r.ps
def headR (c : Cf) : List Wd := (if c.tt = 0 then [] else [[116, 111, 116, 97, 108, 32] ++ digR c.tt]) ++ ((if c.pe = 0 then [] else [[112, 101, 114, 105, 111, 100, 32] ++ digR c.pe]) ++
  (if c.pr = 0 ∧ c.mo = 0 then [] else [[115, 101, 97, 116, 115, 32] ++ digR c.pr ++ [32] ++ digR c.mo]))
def smR (s : Sm) : List Wd := schR s :: s.rl.map rulR
def linesR (c : Cf) : List Wd := headR c ++ (c.ls.map levR ++ (c.ss.map smR).flatten)

def J32 (ws : List Wd) : Wd := Lib.join ws [32]
theorem J32_one (x : Wd) : J32 [x] = x := Lib.join_one _ _
theorem J32_two (x y : Wd) (r : List Wd) : J32 (x :: y :: r) = x ++ 32 :: J32 (y :: r) := join_cons2 32 x y r

theorem digR_of {n : Int} (h : 0 ≤ n) : digR n = digI n := by unfold digR; rw [if_neg (by omega)]
theorem borR_of {b : Int} (h : -1 ≤ b) : borR b = borW b := by
  unfold borR borW
  split
  · rfl
  · exact digR_of (by omega)
theorem byR_of {b : Int} (h : inB b 0 2 = true) : byR b = byW b := by
  rw [inB_iff] at h
  have : b = 0 ∨ b = 1 ∨ b = 2 := by omega
  rcases this with rfl | rfl | rfl <;> rfl
theorem lisR_of {l : List Wd} (h : goodF l = true) : lisR l = joinF l := by unfold lisR; rw [if_neg (lis_of h).2.2]

theorem levR_of {l : Lv} (h : levOK l = true) : levR l = J32 (levW l) ∧ (∀ w, w ∈ levW l → clean w) := by
  obtain ⟨nm, kd, sh, ld, bo, qu, ha, le, wa, gu⟩ := l
  simp only [levOK, Bool.and_eq_true] at h
  obtain ⟨hn, h⟩ := h
  have cn := clean_name hn
  have cl : clean LEVEL := by unfold clean; decide
  split at h
  · rename_i e
    try simp only at e
    subst e
    refine ⟨?_, ?_⟩
    · simp [levR, levW, J32_two, J32_one, LEVEL, EXEMPT]
    · intro w hw
      simp only [levW, if_true, List.mem_cons, List.not_mem_nil, or_false] at hw
      rcases hw with rfl | rfl | rfl
      · exact cl
      · exact cn
      · unfold clean; decide
  split at h
  · rename_i e0 e
    try simp only at e
    subst e
    simp only [Bool.and_eq_true, inB_iff] at h
    obtain ⟨_, g1, g2, g3⟩ := h
    refine ⟨?_, ?_⟩
    · simp [levR, levW, limR, J32_two, J32_one, LEVEL, REJECT, digR_of g1.1, digR_of g2.1, borR_of g3.1]
    · intro w hw
      simp only [levW, if_true, List.mem_cons, List.not_mem_nil, or_false, show ¬ ((2 : Int) = 1) by decide, if_false] at hw
      rcases hw with rfl | rfl | rfl | rfl | rfl | rfl
      · exact cl
      · exact cn
      · exact clean_dig _
      · exact clean_dig _
      · exact clean_bor
      · unfold clean; decide
  split at h
  · rename_i e0 e1 e
    try simp only at e
    subst e
    simp only [Bool.and_eq_true, inB_iff] at h
    obtain ⟨⟨q1, q2, q3, q4, q5⟩, g1, g2, g3⟩ := h
    refine ⟨?_, ?_⟩
    · simp [levR, levW, limR, queR, J32_two, J32_one, LEVEL, QUEUE, digR_of g1.1, digR_of g2.1, borR_of g3.1, digR_of (show 0 ≤ qu by omega), digR_of (show 0 ≤ ha by omega), digR_of (show 0 ≤ le by omega), digR_of (show 0 ≤ wa by omega), digR_of (show 0 ≤ gu by omega)]
    · intro w hw
      simp only [levW, if_true, List.mem_cons, List.not_mem_nil, or_false, show ¬ ((3 : Int) = 1) by decide, show ¬ ((3 : Int) = 2) by decide, if_false] at hw
      rcases hw with rfl | rfl | rfl | rfl | rfl | rfl | rfl | rfl | rfl | rfl | rfl
      · exact cl
      · exact cn
      · exact clean_dig _
      · exact clean_dig _
      · exact clean_bor
      · unfold clean; decide
      all_goals exact clean_dig _
  · cases h
theorem schR_of {s : Sm} (h : smOK s = true) : schR s = J32 (sch1 s) ∧ (∀ w, w ∈ sch1 s → clean w) := by
  simp only [smOK, Bool.and_eq_true] at h
  obtain ⟨n1, n2, r, b, _, _⟩ := h
  have r' := r
  rw [inB_iff] at r'
  refine ⟨?_, ?_⟩
  · simp [schR, sch1, J32_two, J32_one, SCHEMA, digR_of (show 0 ≤ s.rk by omega), byR_of b]
  · intro w hw
    simp only [sch1, List.mem_cons, List.not_mem_nil, or_false] at hw
    rcases hw with rfl | rfl | rfl | rfl | rfl
    · unfold clean; decide
    · exact clean_name n1
    · exact clean_name n2
    · exact clean_dig _
    · exact clean_by
theorem rulR_of {r : Rl} (h : rlOK r = true) : rulR r = J32 (rulW r) ∧ (∀ w, w ∈ rulW r → clean w) := by
  simp only [rlOK, Bool.and_eq_true] at h
  obtain ⟨g1, g2, g3, g4, g5⟩ := h
  refine ⟨?_, ?_⟩
  · simp [rulR, rulW, J32_two, J32_one, RULE, lisR_of g1, lisR_of g2, lisR_of g3, lisR_of g4, lisR_of g5]
  · intro w hw
    simp only [rulW, List.mem_cons, List.not_mem_nil, or_false] at hw
    rcases hw with rfl | rfl | rfl | rfl | rfl | rfl
    · unfold clean; decide
    all_goals (apply clean_join; assumption)

theorem allL_ok : ∀ {l p : List Lv}, allL p l = true → ∀ x, x ∈ l → levOK x = true
  | [], _, _, x, hx => by cases hx
  | y :: l, p, h, x, hx => by
    simp only [allL, Bool.and_eq_true] at h
    rcases List.mem_cons.1 hx with rfl | hx
    · exact h.1
    · exact allL_ok h.2.2 x hx
theorem allM_ok : ∀ {l p : List Sm}, allM p l = true → ∀ x, x ∈ l → smOK x = true
  | [], _, _, x, hx => by cases hx
  | y :: l, p, h, x, hx => by
    simp only [allM, Bool.and_eq_true] at h
    rcases List.mem_cons.1 hx with rfl | hx
    · exact h.1
    · exact allM_ok h.2.2 x hx

/-- Of what is formed: the lines, and that their words are such. -/
theorem lines_told {c : Cf} (h : formC c = true) : linesR c = (cfW c).map J32 ∧ ∀ ws, ws ∈ cfW c → ∀ w, w ∈ ws → clean w := by
  simp only [formC, Bool.and_eq_true, decide_eq_true_eq] at h
  obtain ⟨c1, c2, c3, c4, c5, c6, c7, c8, c9⟩ := h
  rw [inB_iff] at c1 c2 c3 c4
  have hL : c.ls.map levR = (c.ls.map levW).map J32 := by
    rw [List.map_map]
    exact List.map_congr_left fun x hx => (levR_of (allL_ok c8 x hx)).1
  have hM : (c.ss.map smR).flatten = ((c.ss.map schW).flatten).map J32 := by
    rw [List.map_flatten, List.map_map]
    congr 1
    refine List.map_congr_left fun x hx => ?_
    have hx' := allM_ok c9 x hx
    show schR x :: x.rl.map rulR = (sch1 x :: x.rl.map rulW).map J32
    rw [List.map_cons, (schR_of hx').1, List.map_map]
    congr 1
    refine List.map_congr_left fun r hr => ?_
    simp only [smOK, Bool.and_eq_true, decide_eq_true_eq] at hx'
    exact (rulR_of (List.all_eq_true.1 hx'.2.2.2.2.2 r hr)).1
  have hH : headR c = (headW c).map J32 := by
    unfold headR headW
    rw [List.map_append, List.map_append]
    congr 1
    · split
      · rfl
      · rw [digR_of c1.1]; simp [J32_two, J32_one, TOTAL]
    congr 1
    · split
      · rfl
      · rw [digR_of c2.1]; simp [J32_two, J32_one, PERIOD]
    · by_cases e : c.pr = 0
      · rw [if_pos ⟨e, c5.1 e⟩, if_pos e]; rfl
      · rw [if_neg (fun h => e h.1), if_neg e, digR_of c3.1, digR_of c4.1]; simp [J32_two, J32_one, SEATS]
  refine ⟨by unfold linesR cfW; rw [hH, hL, hM, List.map_append, List.map_append], ?_⟩
  intro ws hws
  unfold cfW at hws
  rcases List.mem_append.1 hws with h | h
  · unfold headW at h
    rcases List.mem_append.1 h with h | h
    · split at h
      · cases h
      · obtain rfl := List.mem_singleton.1 h
        intro w hw
        simp only [List.mem_cons, List.not_mem_nil, or_false] at hw
        rcases hw with rfl | rfl
        · unfold clean; decide
        · exact clean_dig _
    rcases List.mem_append.1 h with h | h
    · split at h
      · cases h
      · obtain rfl := List.mem_singleton.1 h
        intro w hw
        simp only [List.mem_cons, List.not_mem_nil, or_false] at hw
        rcases hw with rfl | rfl
        · unfold clean; decide
        · exact clean_dig _
    · split at h
      · cases h
      · obtain rfl := List.mem_singleton.1 h
        intro w hw
        simp only [List.mem_cons, List.not_mem_nil, or_false] at hw
        rcases hw with rfl | rfl | rfl
        · unfold clean; decide
        · exact clean_dig _
        · exact clean_dig _
  rcases List.mem_append.1 h with h | h
  · obtain ⟨x, hx, rfl⟩ := List.mem_map.1 h
    exact (levR_of (allL_ok c8 x hx)).2
  · obtain ⟨l, hl, hw⟩ := List.mem_flatten.1 h
    obtain ⟨x, hx, rfl⟩ := List.mem_map.1 hl
    have hx' := allM_ok c9 x hx
    rcases List.mem_cons.1 hw with rfl | hw
    · exact (schR_of hx').2
    · obtain ⟨r, hr, rfl⟩ := List.mem_map.1 hw
      simp only [smOK, Bool.and_eq_true, decide_eq_true_eq] at hx'
      exact (rulR_of (List.all_eq_true.1 hx'.2.2.2.2.2 r hr)).2

/-! ### Are two the same? -/
def sameL (a b : Lv) : Bool := decide (a.nm = b.nm) && (decide (a.kd = b.kd) && (decide (a.sh = b.sh) && (decide (a.ld = b.ld) && (decide (a.bo = b.bo) && (decide (a.qu = b.qu) && (decide (a.ha = b.ha) && (decide (a.le = b.le) && (decide (a.wa = b.wa) && decide (a.gu = b.gu)))))))))
theorem sameL_iff {a b : Lv} : sameL a b = true ↔ a = b := by
  obtain ⟨a1, a2, a3, a4, a5, a6, a7, a8, a9, a10⟩ := a
  obtain ⟨b1, b2, b3, b4, b5, b6, b7, b8, b9, b10⟩ := b
  simp only [sameL, Bool.and_eq_true, decide_eq_true_eq, Lv.mk.injEq]
instance (a b : Lv) : Decidable (a = b) := decidable_of_iff _ sameL_iff
instance (a b : Rl) : Decidable (a = b) := by
  obtain ⟨a1, a2, a3, a4, a5⟩ := a
  obtain ⟨b1, b2, b3, b4, b5⟩ := b
  exact decidable_of_iff (a1 = b1 ∧ a2 = b2 ∧ a3 = b3 ∧ a4 = b4 ∧ a5 = b5) (by simp)
instance (a b : Sm) : Decidable (a = b) := by
  obtain ⟨a1, a2, a3, a4, a5⟩ := a
  obtain ⟨b1, b2, b3, b4, b5⟩ := b
  exact decidable_of_iff (a1 = b1 ∧ a2 = b2 ∧ a3 = b3 ∧ a4 = b4 ∧ a5 = b5) (by simp)
instance (a b : Cf) : Decidable (a = b) := by
  obtain ⟨a1, a2, a3, a4, a5, a6⟩ := a
  obtain ⟨b1, b2, b3, b4, b5, b6⟩ := b
  exact decidable_of_iff (a1 = b1 ∧ a2 = b2 ∧ a3 = b3 ∧ a4 = b4 ∧ a5 = b5 ∧ a6 = b6) (by simp)
def sameC (a b : Cf) : Bool := decide (a = b)

end Go.Proofs.YtflpgbkdjelaaaaDoor

/- print: a line told to the builder. -/
namespace Go.Proofs.YtflpgbkdjelaaaaDoor
open Go Go.Proofs Go.Ua Go.Extern Go.Shelf
set_option linter.unusedVariables false
set_option linter.unusedSimpArgs false
set_option maxRecDepth 10000

def lineT (ws : List Wd) : Wd := J32 ws ++ [10]
/-- What is told lies in bounds. -/
def tellP (bs : List Dat) (ws : List Dat) : Bool := isStrs ws && (decide (ws.length ≤ 1000000) && decide (bs.length + (lineT (unStr ws)).length ≤ 70368744177664))
theorem tell_spec (bs ws : List Dat) (h : tellP bs ws = true) : ASpec Tryd.prog 17 [.ptr 0 0 0 2, .row 1 1] [(0, .cs 54 [.opt 0, .row 2 1]), (1, .ds 9 1 ws), (2, .ds 5 1 bs)] 3 (fun y h1 fr1 => y = .tup [] ∧ h1 = [(0, .cs 54 [.opt 0, .row 3 1]), (3, .ds 5 1 (bs ++ byD (lineT (unStr ws))))] ∧ fr1 = 4) := by
  obtain ⟨uSJoin, huSJoin⟩ : ∃ u : List Dat → List UInt8 → Bool, u = joinP := ⟨_, rfl⟩
  obtain ⟨uSJoin1, huSJoin1⟩ : ∃ u : List Dat → List UInt8 → List UInt8, u = fun l s => Lib.join (unStr l) s := ⟨_, rfl⟩
  obtain ⟨uWriteString, huWriteString⟩ : ∃ u : List Dat → List UInt8 → Bool, u = fun bs s => roomB bs s.length := ⟨_, rfl⟩
  obtain ⟨uWriteString1, huWriteString1⟩ : ∃ u : List UInt8 → Int, u = fun s => s.length := ⟨_, rfl⟩
  obtain ⟨uWriteString2, huWriteString2⟩ : ∃ u : List Dat → List UInt8 → List Dat, u = fun bs s => bs ++ byD s := ⟨_, rfl⟩
  obtain ⟨uWriteByte, huWriteByte⟩ : ∃ u : List Dat → Bool, u = fun bs => roomB bs 1 := ⟨_, rfl⟩
  obtain ⟨uWriteByte1, huWriteByte1⟩ : ∃ u : List Dat → Int → List Dat, u = fun bs c => bs ++ [.s (.int .u8 c)] := ⟨_, rfl⟩
  have hG : TblOK Tryd.prog [(38, .p (φSJoin uSJoin uSJoin1)), (37, .m (φWriteString uWriteString uWriteString1 uWriteString2)), (39, .m (φWriteByte uWriteByte uWriteByte1))] := ⟨(by rw [huSJoin, huSJoin1]; exact φSJoin_ok), (by rw [huWriteString, huWriteString1, huWriteString2]; exact φWriteString_ok), (by rw [huWriteByte, huWriteByte1]; exact φWriteByte_ok), trivial⟩
  simp only [tellP, Bool.and_eq_true, decide_eq_true_eq] at h
  obtain ⟨g1, g2, g3⟩ := h
  have g4 : (lineT (unStr ws)).length = (J32 (unStr ws)).length + 1 := by simp [lineT]
  obtain ⟨j, hj⟩ : ∃ z, z = uSJoin1 ws [32] := ⟨_, rfl⟩
  have hj2 : j = J32 (unStr ws) := by rw [hj, huSJoin1]; rfl
  have q1 : uSJoin ws [32] = true := by
    subst huSJoin huSJoin1 huWriteString huWriteString1 huWriteString2 huWriteByte huWriteByte1
    simp only [joinP, g1, Bool.true_and, Bool.and_eq_true, decide_eq_true_eq]
    refine ⟨by omega, ?_⟩
    show (J32 (unStr ws)).length ≤ _
    omega
  have q2 : uWriteString bs j = true := by
    subst huSJoin huSJoin1 huWriteString huWriteString1 huWriteString2 huWriteByte huWriteByte1
    rw [hj2]
    exact decide_eq_true (by omega)
  obtain ⟨b2, hb2⟩ : ∃ z, z = uWriteString2 bs j := ⟨_, rfl⟩
  have hb3 : b2 = bs ++ byD j := by rw [hb2, huWriteString2]
  have q3 : uWriteByte b2 = true := by
    subst huSJoin huSJoin1 huWriteString huWriteString1 huWriteString2 huWriteByte huWriteByte1
    rw [hb3, hj2]
    exact decide_eq_true (by rw [List.length_append, byD_length]; omega)
  have hfin : uWriteByte1 b2 10 = bs ++ byD (lineT (unStr ws)) := by
    rw [huWriteByte1, hb3, hj2, lineT, byD_app]
    show bs ++ byD (J32 (unStr ws)) ++ byD [10] = _
    rw [List.append_assoc]
  refine ASpec.enterK Tryd.func17 (by kernel_rfl) rfl (Nat.le_of_ble_eq_true rfl) fun hok cx hnt hfr => ?_
  obtain ⟨F, hF⟩ := real_ex
  refine AKp.freeze 1 rfl ?_
  conv => arg 4; arg 2; cbv
  refine AK.runTn hF tabOK hmix hnt [] false _ hG (by first | exact Nat.le_of_eq hfr | (rw [hfr]; exact Nat.le_of_ble_eq_true rfl)) ?_
  conv => arg 4; cbv
  rw [← hj]
  refine AKt.need q1 fun _ => AKt.need q2 fun _ => ?_
  rw [← hb2]
  refine AKt.need q3 fun _ => ?_
  rw [hfin]
  repeat' (first | with_reducible (first | refine AKt.have ?_ | refine AKt.tt ?_ | refine AKt.ff ?_ | refine AKt.yes (by assumption) ?_ | refine AKt.no (by assumption) ?_ | refine AKt.node (fun hb => ?_) (fun hb => ?_) | refine AKt.need ?_ (fun hb => ?_) | refine AKt.leaf ?_) | ((with_reducible show _ = true); assumption))
  first | refine AKp.doneI tabOK [0, 1, 2, 4] hfr (by rfl) (by rfl) (by rfl) rfl rfl rfl ?_ ?_ | refine AKp.endI tabOK [0, 1, 2, 4] hfr (by rfl) (by rfl) (by rfl) rfl rfl rfl ?_ ?_
  all_goals show _ = _
  · rfl
  · rfl
def φTell (p : List Dat → List Dat → Bool) (v : List Dat → List Dat → List Dat) : Nat → List AV → List (Nat × Blk) → Option (Bool × AV × List (Nat × Blk) × Nat)
  | 3, [.ptr 0 0 0 2, .row 1 1], [(0, .cs 54 [.opt 0, .row 2 1]), (1, .ds 9 1 ws), (2, .ds 5 1 bs)] => some (p bs ws, .tup [], [(0, .cs 54 [.opt 0, .row 3 1]), (3, .ds 5 1 (v bs ws))], 4)
  | _, _, _ => none
theorem φTell_ok : MSpOK Tryd.prog 17 (φTell (tellP) (fun bs ws => bs ++ byD (lineT (unStr ws)))) := by
  intro fr xs h b x h1 fr1 h hb
  unfold φTell at h
  split at h
  · simp only [Option.some.injEq, Prod.mk.injEq] at h
    obtain ⟨rfl, rfl, rfl, rfl⟩ := h
    exact tell_spec _ _ hb
  · cases h
end Go.Proofs.YtflpgbkdjelaaaaDoor

