/- The library of this claim and its walks, part 29, joined out of smaller texts. No statement stands in it. -/
import Derived.Test.YtflpgbkdjelaaaaDoorUaM28
/- The lines of a configuration as the document tells them; what is formed by them: plain laws. -/
namespace Go.Proofs.YtflpgbkdjelaaaaDoor
open Go Go.Proofs Go.Ua Go.Extern
set_option linter.unusedVariables false
set_option linter.unusedSimpArgs false

/-- No blank, no newline, not empty. -/
def clean (w : Wd) : Prop := w ≠ [] ∧ (32 : UInt8) ∉ w ∧ (10 : UInt8) ∉ w
theorem clean_name {w : Wd} (h : nameF w = true) : clean w := word_no (word_of_name h)
theorem clean_dig (n : Int) : clean (digI n) := by
  have h := dig_all n.toNat
  rw [List.all_eq_true] at h
  refine ⟨fun e => ?_, fun hm => ?_, fun hm => ?_⟩
  · have := dig_pos n.toNat; rw [digI] at e; rw [e] at this; simp at this
  · have := h _ hm; revert this; decide
  · have := h _ hm; revert this; decide
theorem join_mem {c d : UInt8} : ∀ {l : List Wd}, d ∈ Lib.join l [c] → d = c ∨ ∃ p, p ∈ l ∧ d ∈ p
  | [], h => by simp [Lib.join, List.intercalate] at h
  | [x], h => by rw [Lib.join_one] at h; exact .inr ⟨x, by simp, h⟩
  | x :: y :: r, h => by
    rw [join_cons2] at h
    rcases List.mem_append.1 h with h | h
    · exact .inr ⟨x, by simp, h⟩
    · rcases List.mem_cons.1 h with h | h
      · exact .inl h
      · rcases join_mem h with h | ⟨p, h1, h2⟩
        · exact .inl h
        · exact .inr ⟨p, List.mem_cons_of_mem _ h1, h2⟩
theorem clean_join {l : List Wd} (h : goodF l = true) : clean (joinF l) := by
  have hne := (lis_of h).2.2
  have no : ∀ c : UInt8, c = 32 ∨ c = 10 → c ∉ joinF l := by
    intro c hc hm
    have hd : c = 44 ∨ c = 32 ∨ c = 10 := .inr hc
    unfold joinF at hm
    rw [if_pos h] at hm
    split at hm
    · rcases hc with rfl | rfl <;> revert hm <;> decide
    · rcases join_mem hm with e | ⟨p, hp, hcp⟩
      · rcases hc with rfl | rfl <;> cases e
      · unfold goodF at h
        simp only [Bool.or_eq_true, Bool.and_eq_true, beq_iff_eq] at h
        rcases h with h | h
        · rw [h] at hp
          simp only [List.mem_singleton] at hp
          rw [hp] at hcp
          rcases hc with rfl | rfl <;> revert hcp <;> decide
        · have := List.all_eq_true.1 h.1.1 p hp
          rw [wordF_no hcp hd] at this
          cases this
  exact ⟨hne, no 32 (.inl rfl), no 10 (.inr rfl)⟩
theorem clean_by {b : Int} : clean (byW b) := by
  unfold byW clean
  split
  · decide
  · split <;> decide
theorem clean_bor {b : Int} : clean (borW b) := by
  unfold borW
  split
  · unfold clean; decide
  · exact clean_dig b

theorem words_join : ∀ {ws : List Wd}, (∀ w, w ∈ ws → clean w) → wordsF (Lib.join ws [32]) = ws
  | [], _ => rfl
  | [x], h => by
    obtain ⟨h1, h2, _⟩ := h x (by simp)
    rw [Lib.join_one]
    have := words_none h2
    rw [if_neg h1] at this
    exact this
  | x :: y :: r, h => by
    obtain ⟨h1, h2, _⟩ := h x (by simp)
    rw [join_cons2]
    have := words_app (Lib.join (y :: r) [32]) h2
    rw [if_neg h1] at this
    rw [show wordsF (x ++ 32 :: Lib.join (y :: r) [32]) = [x] ++ wordsF (Lib.join (y :: r) [32]) from this, words_join fun w hw => h w (List.mem_cons_of_mem _ hw)]
    rfl
/-! ### The lines -/
def digR (n : Int) : Wd := if n < 0 then [63] else digI n
def lisR (l : List Wd) : Wd := if joinF l = [] then [63] else joinF l
def borR (b : Int) : Wd := if b = -1 then ALLW else digR b
def limR (l : Lv) : Wd := [32] ++ digR l.sh ++ [32] ++ digR l.ld ++ [32] ++ borR l.bo
def queR (l : Lv) : Wd := [32, 113, 117, 101, 117, 101, 32] ++ digR l.qu ++ [32] ++ digR l.ha ++ [32] ++ digR l.le ++ [32] ++ digR l.wa ++ [32] ++ digR l.gu
def levR (l : Lv) : Wd := [108, 101, 118, 101, 108, 32] ++ l.nm ++
  (if l.kd = 1 then [32, 101, 120, 101, 109, 112, 116] else if l.kd = 2 then limR l ++ [32, 114, 101, 106, 101, 99, 116] else if l.kd = 3 then limR l ++ queR l else [])
def byR (b : Int) : Wd := if b = 0 then NONE else if b = 1 then USER else if b = 2 then SPACE else [63]
def schR (s : Sm) : Wd := [115, 99, 104, 101, 109, 97, 32] ++ s.nm ++ [32] ++ s.lv ++ [32] ++ digR s.rk ++ [32] ++ byR s.bb
def rulR (r : Rl) : Wd := [114, 117, 108, 101, 32] ++ lisR r.us ++ [32] ++ lisR r.gs ++ [32] ++ lisR r.vs ++ [32] ++ lisR r.rs ++ [32] ++ lisR r.ps
def headR (c : Cf) : List Wd := (if c.tt = 0 then [] else [[116, 111, 116, 97, 108, 32] ++ digR c.tt]) ++ ((if c.pe = 0 then [] else [[112, 101, 114, 105, 111, 100, 32] ++ digR c.pe]) ++
  (if c.pr = 0 ∧ c.mo = 0 then [] else [[115, 101, 97, 116, 115, 32] ++ digR c.pr ++ [32] ++ digR c.mo]))
def smR (s : Sm) : List Wd := schR s :: s.rl.map rulR
def linesR (c : Cf) : List Wd := headR c ++ (c.ls.map levR ++ (c.ss.map smR).flatten)

def J32 (ws : List Wd) : Wd := Lib.join ws [32]
theorem J32_one (x : Wd) : J32 [x] = x := Lib.join_one _ _
theorem J32_two (x y : Wd) (r : List Wd) : J32 (x :: y :: r) = x ++ 32 :: J32 (y :: r) := join_cons2 32 x y r

theorem digR_of {n : Int} (h : 0 ≤ n) : digR n = digI n := by unfold digR; rw [if_neg (by omega)]
theorem borR_of {b : Int} (h : -1 ≤ b) : borR b = borW b := by
  unfold borR borW
  split
  · rfl
  · exact digR_of (by omega)
theorem byR_of {b : Int} (h : inB b 0 2 = true) : byR b = byW b := by
  rw [inB_iff] at h
  have : b = 0 ∨ b = 1 ∨ b = 2 := by omega
  rcases this with rfl | rfl | rfl <;> rfl
theorem lisR_of {l : List Wd} (h : goodF l = true) : lisR l = joinF l := by unfold lisR; rw [if_neg (lis_of h).2.2]

theorem levR_of {l : Lv} (h : levOK l = true) : levR l = J32 (levW l) ∧ (∀ w, w ∈ levW l → clean w) := by
  obtain ⟨nm, kd, sh, ld, bo, qu, ha, le, wa, gu⟩ := l
  simp only [levOK, Bool.and_eq_true] at h
  obtain ⟨hn, h⟩ := h
  have cn := clean_name hn
  have cl : clean LEVEL := by unfold clean; decide
  split at h
  · rename_i e
    try simp only at e
    subst e
    refine ⟨?_, ?_⟩
    · simp [levR, levW, J32_two, J32_one, LEVEL, EXEMPT]
    · intro w hw
      simp only [levW, if_true, List.mem_cons, List.not_mem_nil, or_false] at hw
      rcases hw with rfl | rfl | rfl
      · exact cl
      · exact cn
      · unfold clean; decide
  split at h
  · rename_i e0 e
    try simp only at e
    subst e
    simp only [Bool.and_eq_true, inB_iff] at h
    obtain ⟨_, g1, g2, g3⟩ := h
    refine ⟨?_, ?_⟩
    · simp [levR, levW, limR, J32_two, J32_one, LEVEL, REJECT, digR_of g1.1, digR_of g2.1, borR_of g3.1]
    · intro w hw
      simp only [levW, if_true, List.mem_cons, List.not_mem_nil, or_false, show ¬ ((2 : Int) = 1) by decide, if_false] at hw
      rcases hw with rfl | rfl | rfl | rfl | rfl | rfl
      · exact cl
      · exact cn
      · exact clean_dig _
      · exact clean_dig _
      · exact clean_bor
      · unfold clean; decide
  split at h
  · rename_i e0 e1 e
    try simp only at e
    subst e
    simp only [Bool.and_eq_true, inB_iff] at h
    obtain ⟨⟨q1, q2, q3, q4, q5⟩, g1, g2, g3⟩ := h
    refine ⟨?_, ?_⟩
    · simp [levR, levW, limR, queR, J32_two, J32_one, LEVEL, QUEUE, digR_of g1.1, digR_of g2.1, borR_of g3.1, digR_of (show 0 ≤ qu by omega), digR_of (show 0 ≤ ha by omega), digR_of (show 0 ≤ le by omega), digR_of (show 0 ≤ wa by omega), digR_of (show 0 ≤ gu by omega)]
    · intro w hw
      simp only [levW, if_true, List.mem_cons, List.not_mem_nil, or_false, show ¬ ((3 : Int) = 1) by decide, show ¬ ((3 : Int) = 2) by decide, if_false] at hw
      rcases hw with rfl | rfl | rfl | rfl | rfl | rfl | rfl | rfl | rfl | rfl | rfl
      · exact cl
      · exact cn
      · exact clean_dig _
      · exact clean_dig _
      · exact clean_bor
      · unfold clean; decide
      all_goals exact clean_dig _
  · cases h
theorem schR_of {s : Sm} (h : smOK s = true) : schR s = J32 (sch1 s) ∧ (∀ w, w ∈ sch1 s → clean w) := by
  simp only [smOK, Bool.and_eq_true] at h
  obtain ⟨n1, n2, r, b, _, _⟩ := h
  have r' := r
  rw [inB_iff] at r'
  refine ⟨?_, ?_⟩
  · simp [schR, sch1, J32_two, J32_one, SCHEMA, digR_of (show 0 ≤ s.rk by omega), byR_of b]
  · intro w hw
    simp only [sch1, List.mem_cons, List.not_mem_nil, or_false] at hw
    rcases hw with rfl | rfl | rfl | rfl | rfl
    · unfold clean; decide
    · exact clean_name n1
    · exact clean_name n2
    · exact clean_dig _
    · exact clean_by
theorem rulR_of {r : Rl} (h : rlOK r = true) : rulR r = J32 (rulW r) ∧ (∀ w, w ∈ rulW r → clean w) := by
  simp only [rlOK, Bool.and_eq_true] at h
  obtain ⟨g1, g2, g3, g4, g5⟩ := h
  refine ⟨?_, ?_⟩
  · simp [rulR, rulW, J32_two, J32_one, RULE, lisR_of g1, lisR_of g2, lisR_of g3, lisR_of g4, lisR_of g5]
  · intro w hw
    simp only [rulW, List.mem_cons, List.not_mem_nil, or_false] at hw
    rcases hw with rfl | rfl | rfl | rfl | rfl | rfl
    · unfold clean; decide
    all_goals (apply clean_join; assumption)

theorem allL_ok : ∀ {l p : List Lv}, allL p l = true → ∀ x, x ∈ l → levOK x = true
  | [], _, _, x, hx => by cases hx
  | y :: l, p, h, x, hx => by
    simp only [allL, Bool.and_eq_true] at h
    rcases List.mem_cons.1 hx with rfl | hx
    · exact h.1
    · exact allL_ok h.2.2 x hx
theorem allM_ok : ∀ {l p : List Sm}, allM p l = true → ∀ x, x ∈ l → smOK x = true
  | [], _, _, x, hx => by cases hx
  | y :: l, p, h, x, hx => by
    simp only [allM, Bool.and_eq_true] at h
    rcases List.mem_cons.1 hx with rfl | hx
    · exact h.1
    · exact allM_ok h.2.2 x hx

/-- Of what is formed: the lines, and that their words are such. -/
theorem lines_told {c : Cf} (h : formC c = true) : linesR c = (cfW c).map J32 ∧ ∀ ws, ws ∈ cfW c → ∀ w, w ∈ ws → clean w := by
  simp only [formC, Bool.and_eq_true, decide_eq_true_eq] at h
  obtain ⟨c1, c2, c3, c4, c5, c6, c7, c8, c9⟩ := h
  rw [inB_iff] at c1 c2 c3 c4
  have hL : c.ls.map levR = (c.ls.map levW).map J32 := by
    rw [List.map_map]
    exact List.map_congr_left fun x hx => (levR_of (allL_ok c8 x hx)).1
  have hM : (c.ss.map smR).flatten = ((c.ss.map schW).flatten).map J32 := by
    rw [List.map_flatten, List.map_map]
    congr 1
    refine List.map_congr_left fun x hx => ?_
    have hx' := allM_ok c9 x hx
    show schR x :: x.rl.map rulR = (sch1 x :: x.rl.map rulW).map J32
    rw [List.map_cons, (schR_of hx').1, List.map_map]
    congr 1
    refine List.map_congr_left fun r hr => ?_
    simp only [smOK, Bool.and_eq_true, decide_eq_true_eq] at hx'
    exact (rulR_of (List.all_eq_true.1 hx'.2.2.2.2.2 r hr)).1
  have hH : headR c = (headW c).map J32 := by
    unfold headR headW
    rw [List.map_append, List.map_append]
    congr 1
    · split
      · rfl
      · rw [digR_of c1.1]; simp [J32_two, J32_one, TOTAL]
    congr 1
    · split
      · rfl
      · rw [digR_of c2.1]; simp [J32_two, J32_one, PERIOD]
    · by_cases e : c.pr = 0
      · rw [if_pos ⟨e, c5.1 e⟩, if_pos e]; rfl
      · rw [if_neg (fun h => e h.1), if_neg e, digR_of c3.1, digR_of c4.1]; simp [J32_two, J32_one, SEATS]
  refine ⟨by unfold linesR cfW; rw [hH, hL, hM, List.map_append, List.map_append], ?_⟩
  intro ws hws
  unfold cfW at hws
  rcases List.mem_append.1 hws with h | h
  · unfold headW at h
    rcases List.mem_append.1 h with h | h
    · split at h
      · cases h
      · obtain rfl := List.mem_singleton.1 h
        intro w hw
        simp only [List.mem_cons, List.not_mem_nil, or_false] at hw
        rcases hw with rfl | rfl
        · unfold clean; decide
        · exact clean_dig _
    rcases List.mem_append.1 h with h | h
    · split at h
      · cases h
      · obtain rfl := List.mem_singleton.1 h
        intro w hw
        simp only [List.mem_cons, List.not_mem_nil, or_false] at hw
        rcases hw with rfl | rfl
        · unfold clean; decide
        · exact clean_dig _
    · split at h
      · cases h
      · obtain rfl := List.mem_singleton.1 h
        intro w hw
        simp only [List.mem_cons, List.not_mem_nil, or_false] at hw
        rcases hw with rfl | rfl | rfl
        · unfold clean; decide
        · exact clean_dig _
        · exact clean_dig _
  rcases List.mem_append.1 h with h | h
  · obtain ⟨x, hx, rfl⟩ := List.mem_map.1 h
    exact (levR_of (allL_ok c8 x hx)).2
  · obtain ⟨l, hl, hw⟩ := List.mem_flatten.1 h
    obtain ⟨x, hx, rfl⟩ := List.mem_map.1 hl
    have hx' := allM_ok c9 x hx
    rcases List.mem_cons.1 hw with rfl | hw
    · exact (schR_of hx').2
    · obtain ⟨r, hr, rfl⟩ := List.mem_map.1 hw
      simp only [smOK, Bool.and_eq_true, decide_eq_true_eq] at hx'
      exact (rulR_of (List.all_eq_true.1 hx'.2.2.2.2.2 r hr)).2

/-! ### Are two the same? -/
def sameL (a b : Lv) : Bool := decide (a.nm = b.nm) && (decide (a.kd = b.kd) && (decide (a.sh = b.sh) && (decide (a.ld = b.ld) && (decide (a.bo = b.bo) && (decide (a.qu = b.qu) && (decide (a.ha = b.ha) && (decide (a.le = b.le) && (decide (a.wa = b.wa) && decide (a.gu = b.gu)))))))))
theorem sameL_iff {a b : Lv} : sameL a b = true ↔ a = b := by
  obtain ⟨a1, a2, a3, a4, a5, a6, a7, a8, a9, a10⟩ := a
  obtain ⟨b1, b2, b3, b4, b5, b6, b7, b8, b9, b10⟩ := b
  simp only [sameL, Bool.and_eq_true, decide_eq_true_eq, Lv.mk.injEq]
instance (a b : Lv) : Decidable (a = b) := decidable_of_iff _ sameL_iff
instance (a b : Rl) : Decidable (a = b) := by
  obtain ⟨a1, a2, a3, a4, a5⟩ := a
  obtain ⟨b1, b2, b3, b4, b5⟩ := b
  exact decidable_of_iff (a1 = b1 ∧ a2 = b2 ∧ a3 = b3 ∧ a4 = b4 ∧ a5 = b5) (by simp)
instance (a b : Sm) : Decidable (a = b) := by
  obtain ⟨a1, a2, a3, a4, a5⟩ := a
  obtain ⟨b1, b2, b3, b4, b5⟩ := b
  exact decidable_of_iff (a1 = b1 ∧ a2 = b2 ∧ a3 = b3 ∧ a4 = b4 ∧ a5 = b5) (by simp)
instance (a b : Cf) : Decidable (a = b) := by
  obtain ⟨a1, a2, a3, a4, a5, a6⟩ := a
  obtain ⟨b1, b2, b3, b4, b5, b6⟩ := b
  exact decidable_of_iff (a1 = b1 ∧ a2 = b2 ∧ a3 = b3 ∧ a4 = b4 ∧ a5 = b5 ∧ a6 = b6) (by simp)
def sameC (a b : Cf) : Bool := decide (a = b)

end Go.Proofs.YtflpgbkdjelaaaaDoor

/- print: a line told to the builder. -/
namespace Go.Proofs.YtflpgbkdjelaaaaDoor
open Go Go.Proofs Go.Ua Go.Extern Go.Shelf
set_option linter.unusedVariables false
set_option linter.unusedSimpArgs false
set_option maxRecDepth 10000

def lineT (ws : List Wd) : Wd := J32 ws ++ [10]
/-- What is told lies in bounds. -/
def tellP (bs : List Dat) (ws : List Dat) : Bool := isStrs ws && (decide (ws.length ≤ 1000000) && decide (bs.length + (lineT (unStr ws)).length ≤ 70368744177664))
theorem tell_spec (bs ws : List Dat) (h : tellP bs ws = true) : ASpec Tryd.prog 17 [.ptr 0 0 0 2, .row 1 1] [(0, .cs 54 [.opt 0, .row 2 1]), (1, .ds 9 1 ws), (2, .ds 5 1 bs)] 3 (fun y h1 fr1 => y = .tup [] ∧ h1 = [(0, .cs 54 [.opt 0, .row 3 1]), (3, .ds 5 1 (bs ++ byD (lineT (unStr ws))))] ∧ fr1 = 4) := by
  obtain ⟨uSJoin, huSJoin⟩ : ∃ u : List Dat → List UInt8 → Bool, u = joinP := ⟨_, rfl⟩
  obtain ⟨uSJoin1, huSJoin1⟩ : ∃ u : List Dat → List UInt8 → List UInt8, u = fun l s => Lib.join (unStr l) s := ⟨_, rfl⟩
  obtain ⟨uWriteString, huWriteString⟩ : ∃ u : List Dat → List UInt8 → Bool, u = fun bs s => roomB bs s.length := ⟨_, rfl⟩
  obtain ⟨uWriteString1, huWriteString1⟩ : ∃ u : List UInt8 → Int, u = fun s => s.length := ⟨_, rfl⟩
  obtain ⟨uWriteString2, huWriteString2⟩ : ∃ u : List Dat → List UInt8 → List Dat, u = fun bs s => bs ++ byD s := ⟨_, rfl⟩
  obtain ⟨uWriteByte, huWriteByte⟩ : ∃ u : List Dat → Bool, u = fun bs => roomB bs 1 := ⟨_, rfl⟩
  obtain ⟨uWriteByte1, huWriteByte1⟩ : ∃ u : List Dat → Int → List Dat, u = fun bs c => bs ++ [.s (.int .u8 c)] := ⟨_, rfl⟩
  have hG : TblOK Tryd.prog [(38, .p (φSJoin uSJoin uSJoin1)), (37, .m (φWriteString uWriteString uWriteString1 uWriteString2)), (39, .m (φWriteByte uWriteByte uWriteByte1))] := ⟨(by rw [huSJoin, huSJoin1]; exact φSJoin_ok), (by rw [huWriteString, huWriteString1, huWriteString2]; exact φWriteString_ok), (by rw [huWriteByte, huWriteByte1]; exact φWriteByte_ok), trivial⟩
  simp only [tellP, Bool.and_eq_true, decide_eq_true_eq] at h
  obtain ⟨g1, g2, g3⟩ := h
  have g4 : (lineT (unStr ws)).length = (J32 (unStr ws)).length + 1 := by simp [lineT]
  obtain ⟨j, hj⟩ : ∃ z, z = uSJoin1 ws [32] := ⟨_, rfl⟩
  have hj2 : j = J32 (unStr ws) := by rw [hj, huSJoin1]; rfl
  have q1 : uSJoin ws [32] = true := by
    subst huSJoin huSJoin1 huWriteString huWriteString1 huWriteString2 huWriteByte huWriteByte1
    simp only [joinP, g1, Bool.true_and, Bool.and_eq_true, decide_eq_true_eq]
    refine ⟨by omega, ?_⟩
    show (J32 (unStr ws)).length ≤ _
    omega
  have q2 : uWriteString bs j = true := by
    subst huSJoin huSJoin1 huWriteString huWriteString1 huWriteString2 huWriteByte huWriteByte1
    rw [hj2]
    exact decide_eq_true (by omega)
  obtain ⟨b2, hb2⟩ : ∃ z, z = uWriteString2 bs j := ⟨_, rfl⟩
  have hb3 : b2 = bs ++ byD j := by rw [hb2, huWriteString2]
  have q3 : uWriteByte b2 = true := by
    subst huSJoin huSJoin1 huWriteString huWriteString1 huWriteString2 huWriteByte huWriteByte1
    rw [hb3, hj2]
    exact decide_eq_true (by rw [List.length_append, byD_length]; omega)
  have hfin : uWriteByte1 b2 10 = bs ++ byD (lineT (unStr ws)) := by
    rw [huWriteByte1, hb3, hj2, lineT, byD_app]
    show bs ++ byD (J32 (unStr ws)) ++ byD [10] = _
    rw [List.append_assoc]
  refine ASpec.enterK Tryd.func17 (by kernel_rfl) rfl (Nat.le_of_ble_eq_true rfl) fun hok cx hnt hfr => ?_
  obtain ⟨F, hF⟩ := real_ex
  refine AKp.freeze 1 rfl ?_
  conv => arg 4; arg 2; cbv
  refine AK.runTn hF tabOK hmix hnt [] false _ hG (by first | exact Nat.le_of_eq hfr | (rw [hfr]; exact Nat.le_of_ble_eq_true rfl)) ?_
  conv => arg 4; cbv
  rw [← hj]
  refine AKt.need q1 fun _ => AKt.need q2 fun _ => ?_
  rw [← hb2]
  refine AKt.need q3 fun _ => ?_
  rw [hfin]
  repeat' (first | with_reducible (first | refine AKt.have ?_ | refine AKt.tt ?_ | refine AKt.ff ?_ | refine AKt.yes (by assumption) ?_ | refine AKt.no (by assumption) ?_ | refine AKt.node (fun hb => ?_) (fun hb => ?_) | refine AKt.need ?_ (fun hb => ?_) | refine AKt.leaf ?_) | ((with_reducible show _ = true); assumption))
  first | refine AKp.doneI tabOK [0, 1, 2, 4] hfr (by rfl) (by rfl) (by rfl) rfl rfl rfl ?_ ?_ | refine AKp.endI tabOK [0, 1, 2, 4] hfr (by rfl) (by rfl) (by rfl) rfl rfl rfl ?_ ?_
  all_goals show _ = _
  · rfl
  · rfl
def φTell (p : List Dat → List Dat → Bool) (v : List Dat → List Dat → List Dat) : Nat → List AV → List (Nat × Blk) → Option (Bool × AV × List (Nat × Blk) × Nat)
  | 3, [.ptr 0 0 0 2, .row 1 1], [(0, .cs 54 [.opt 0, .row 2 1]), (1, .ds 9 1 ws), (2, .ds 5 1 bs)] => some (p bs ws, .tup [], [(0, .cs 54 [.opt 0, .row 3 1]), (3, .ds 5 1 (v bs ws))], 4)
  | _, _, _ => none
theorem φTell_ok : MSpOK Tryd.prog 17 (φTell (tellP) (fun bs ws => bs ++ byD (lineT (unStr ws)))) := by
  intro fr xs h b x h1 fr1 h hb
  unfold φTell at h
  split at h
  · simp only [Option.some.injEq, Prod.mk.injEq] at h
    obtain ⟨rfl, rfl, rfl, rfl⟩ := h
    exact tell_spec _ _ hb
  · cases h
end Go.Proofs.YtflpgbkdjelaaaaDoor

/- What a text may tell: levels, schemas. -/
namespace Go.Proofs.YtflpgbkdjelaaaaDoor
open Go Go.Proofs Go.Ua Go.Extern
set_option linter.unusedVariables false
set_option linter.unusedSimpArgs false
set_option maxRecDepth 10000

theorem pwithin_spec (n a b : Int) : ESpec Tryd.prog 26 [.d (.s (.int .i64 n)), .d (.s (.int .i64 a)), .d (.s (.int .i64 b))] (fun x => x = .d (.s (.bool (inB n a b)))) := by
  refine ESpec.enter Tryd.func26 (by kernel_rfl) rfl (Nat.le_of_ble_eq_true rfl) fun _ cx hnt hfr => ?_
  obtain ⟨F, hF⟩ := real_ex
  refine AK.runT hF tabOK hmix hnt hfr false [] trivial ?_
  conv => arg 4; cbv
  repeat' (first | with_reducible (first | refine AKt.have ?_ | refine AKt.tt ?_ | refine AKt.ff ?_ | refine AKt.yes (by assumption) ?_ | refine AKt.no (by assumption) ?_ | refine AKt.node (fun hb => ?_) (fun hb => ?_) | refine AKt.need ?_ (fun hb => ?_) | refine AKt.leaf ?_) | ((with_reducible show _ = true); assumption))
  all_goals
    refine AKp.doneE tabOK hfr (by rfl) ?_
    show _ = _
    simp only [tupAV]
    simp only [hF, f_ltI, f_leI, f_eqI, f_eqS, f_eqB, f_not, f_andB, f_orB, f_lenS, f_lenD, f_hasS, f_atS, f_hasC, f_subS, f_hasCat, f_app, f_wrap, f_add, f_sub, f_mul, f_appD, f_fits, f_hasV, f_subV, decide_eq_true_eq, decide_eq_false_iff_not, beq_iff_eq, beq_eq_false_iff_ne, Bool.and_eq_true, Bool.and_eq_false_iff, Bool.not_eq_true, Bool.not_eq_false, Bool.not_eq_eq_eq_not, Bool.not_true, Bool.not_false] at *
    simp [inB, *]
def φPWithin (u : Int → Int → Int → Bool) : List AV → Option (Bool × AV)
  | [.d (.s (.int .i64 n)), .d (.s (.int .i64 a)), .d (.s (.int .i64 b))] => some (true, .d (.s (.bool (u n a b))))
  | _ => none
theorem φPWithin_ok : SpOK Tryd.prog 26 (φPWithin (inB)) := by
  intro xs b x h hb
  unfold φPWithin at h
  split at h
  · simp only [Option.some.injEq, Prod.mk.injEq] at h
    obtain ⟨rfl, rfl⟩ := h
    exact pwithin_spec _ _ _
  · cases h

set_option maxHeartbeats 1000000 in
theorem plevel_spec (nm : Wd) (kd sh ld bo qu ha le wa gu : Int) : ESpec Tryd.prog 27 [.d (.agg [.s (.str nm), .s (.int .i64 kd), .s (.int .i64 sh), .s (.int .i64 ld), .s (.int .i64 bo), .s (.int .i64 qu), .s (.int .i64 ha), .s (.int .i64 le), .s (.int .i64 wa), .s (.int .i64 gu)])] (fun x => x = .d (.s (.bool (levOK ⟨nm, kd, sh, ld, bo, qu, ha, le, wa, gu⟩)))) := by
  obtain ⟨uPWithin, huPWithin⟩ : ∃ u : Int → Int → Int → Bool, u = inB := ⟨_, rfl⟩
  obtain ⟨uName, huName⟩ : ∃ u : List UInt8 → Bool, u = nameF := ⟨_, rfl⟩
  have hG : TblOK Tryd.prog [(26, .p (φPWithin uPWithin)), (44, .p (φName uName))] := ⟨(by rw [huPWithin]; exact φPWithin_ok), (by rw [huName]; exact φName_ok), trivial⟩
  refine ESpec.enter Tryd.func27 (by kernel_rfl) rfl (Nat.le_of_ble_eq_true rfl) fun hok cx hnt hfr => ?_
  obtain ⟨F, hF⟩ := real_ex
  refine AK.runT hF tabOK hmix hnt hfr true _ hG ?_
  conv => arg 4; cbv
  repeat' (first | with_reducible (first | refine AKt.have ?_ | refine AKt.tt ?_ | refine AKt.ff ?_ | refine AKt.yes (by assumption) ?_ | refine AKt.no (by assumption) ?_ | refine AKt.node (fun hb => ?_) (fun hb => ?_) | refine AKt.need ?_ (fun hb => ?_) | refine AKt.leaf ?_) | ((with_reducible show _ = true); assumption))
  all_goals
    refine AKp.doneE tabOK hfr (by rfl) ?_
    show _ = _
    simp only [tupAV]
    subst huPWithin huName
    simp only [hF, f_ltI, f_leI, f_eqI, f_eqS, f_eqB, f_not, f_andB, f_orB, f_lenS, f_lenD, f_hasS, f_atS, f_hasC, f_subS, f_hasCat, f_app, f_wrap, f_add, f_sub, f_mul, f_appD, f_fits, f_hasV, f_subV, decide_eq_true_eq, decide_eq_false_iff_not, beq_iff_eq, beq_eq_false_iff_ne, Bool.and_eq_true, Bool.and_eq_false_iff, Bool.not_eq_true, Bool.not_eq_false, Bool.not_eq_eq_eq_not, Bool.not_true, Bool.not_false] at *
    first
      | (simp [levOK, *]; done)
      | (rw [Bool.eq_iff_iff]; simp [levOK, *]; done)
      | (clear hok hG; grind [levOK])
def φPLevel (u : Wd → Int → Int → Int → Int → Int → Int → Int → Int → Int → Bool) : List AV → Option (Bool × AV)
  | [.d (.agg [.s (.str nm), .s (.int .i64 kd), .s (.int .i64 sh), .s (.int .i64 ld), .s (.int .i64 bo), .s (.int .i64 qu), .s (.int .i64 ha), .s (.int .i64 le), .s (.int .i64 wa), .s (.int .i64 gu)])] => some (true, .d (.s (.bool (u nm kd sh ld bo qu ha le wa gu))))
  | _ => none
theorem φPLevel_ok : SpOK Tryd.prog 27 (φPLevel (fun a b c d e f g h i j => levOK ⟨a, b, c, d, e, f, g, h, i, j⟩)) := by
  intro xs b x h hb
  unfold φPLevel at h
  split at h
  · simp only [Option.some.injEq, Prod.mk.injEq] at h
    obtain ⟨rfl, rfl⟩ := h
    exact plevel_spec _ _ _ _ _ _ _ _ _ _
  · cases h

theorem plists_spec (a b c d e : List Dat) : ESpec Tryd.prog 21 [.d (.agg [.view 1 a, .view 1 b, .view 1 c, .view 1 d, .view 1 e])] (fun x => x = .d (.agg [.view 1 a, .view 1 b, .view 1 c, .view 1 d, .view 1 e])) := by
  refine ESpec.enter Tryd.func21 (by kernel_rfl) rfl (Nat.le_of_ble_eq_true rfl) fun hok cx hnt hfr => ?_
  obtain ⟨F, hF⟩ := real_ex
  refine AK.runT hF tabOK hmix hnt hfr true [] trivial ?_
  conv => arg 4; cbv
  repeat' (first | with_reducible (first | refine AKt.have ?_ | refine AKt.tt ?_ | refine AKt.ff ?_ | refine AKt.yes (by assumption) ?_ | refine AKt.no (by assumption) ?_ | refine AKt.node (fun hb => ?_) (fun hb => ?_) | refine AKt.need ?_ (fun hb => ?_) | refine AKt.leaf ?_) | ((with_reducible show _ = true); assumption))
  refine AKp.doneE tabOK hfr (by rfl) ?_
  show _ = _
  simp only [tupAV]
  rfl
def φPLists  : List AV → Option (Bool × AV)
  | [.d (.agg [.view 1 a, .view 1 b, .view 1 c, .view 1 d, .view 1 e])] => some (true, .d (.agg [.view 1 a, .view 1 b, .view 1 c, .view 1 d, .view 1 e]))
  | _ => none
theorem φPLists_ok : SpOK Tryd.prog 21 (φPLists ) := by
  intro xs b x h hb
  unfold φPLists at h
  split at h
  · simp only [Option.some.injEq, Prod.mk.injEq] at h
    obtain ⟨rfl, rfl⟩ := h
    exact plists_spec _ _ _ _ _
  · cases h
end Go.Proofs.YtflpgbkdjelaaaaDoor

