/- The library of this claim and its walks, part 35, joined out of smaller texts. No statement stands in it. -/
import Derived.Test.YtpmpajodihpkaaaGreatDoorUaM33
import Derived.Test.YtpmpajodihpkaaaGreatDoorUaM34
set_option linter.unusedSimpArgs false
set_option linter.unusedVariables false
namespace Go.Proofs.YtpmpajodihpkaaaGreatDoor
open Go Go.Proofs Go.Ua Go.Extern
def clean (w : Wd) : Prop := w ≠ [] ∧ (32 : UInt8) ∉ w ∧ (10 : UInt8) ∉ w
theorem clean_name {w : Wd} (h : nameF w = true) : clean w := word_no (word_of_name h)
theorem clean_dig (n : Int) : clean (digI n) := by
 have h := dig_all n.toNat
 rw [List.all_eq_true] at h
 refine ⟨fun e => ?_, fun hm => ?_, fun hm => ?_⟩
 · have := dig_pos n.toNat; rw [digI] at e; rw [e] at this; simp at this
 · have := h _ hm; revert this; decide
 · have := h _ hm; revert this; decide
theorem join_mem {c d : UInt8} : ∀ {l : List Wd}, d ∈ Lib.join l [c] → d = c ∨ ∃ p, p ∈ l ∧ d ∈ p
 | [], h => by simp [Lib.join, List.intercalate] at h
 | [x], h => by rw [Lib.join_one] at h; exact .inr ⟨x, by simp, h⟩
 | x :: y :: r, h => by
   rw [join_cons2] at h
   rcases List.mem_append.1 h with h | h
   · exact .inr ⟨x, by simp, h⟩
   · rcases List.mem_cons.1 h with h | h
     · exact .inl h
     · rcases join_mem h with h | ⟨p, h1, h2⟩
       · exact .inl h
       · exact .inr ⟨p, List.mem_cons_of_mem _ h1, h2⟩
theorem clean_join {l : List Wd} (h : goodF l = true) : clean (joinF l) := by
 have hne := (lis_of h).2.2
 have no : ∀ c : UInt8, c = 32 ∨ c = 10 → c ∉ joinF l := by
   intro c hc hm
   have hd : c = 44 ∨ c = 32 ∨ c = 10 := .inr hc
   unfold joinF at hm
   rw [if_pos h] at hm
   split at hm
   · rcases hc with rfl | rfl <;> revert hm <;> decide
   · rcases join_mem hm with e | ⟨p, hp, hcp⟩
     · rcases hc with rfl | rfl <;> cases e
     · unfold goodF at h
       simp only [Bool.or_eq_true, Bool.and_eq_true, beq_iff_eq] at h
       rcases h with h | h
       · rw [h] at hp
         simp only [List.mem_singleton] at hp
         rw [hp] at hcp
         rcases hc with rfl | rfl <;> revert hcp <;> decide
       · have := List.all_eq_true.1 h.1.1 p hp
         rw [wordF_no hcp hd] at this
         cases this
 exact ⟨hne, no 32 (.inl rfl), no 10 (.inr rfl)⟩
theorem clean_by {b : Int} : clean (byW b) := by
 unfold byW clean
 split
 · decide
 · split <;> decide
theorem clean_bor {b : Int} : clean (borW b) := by
 unfold borW
 split
 · unfold clean; decide
 · exact clean_dig b
theorem words_join : ∀ {ws : List Wd}, (∀ w, w ∈ ws → clean w) → wordsF (Lib.join ws [32]) = ws
 | [], _ => rfl
 | [x], h => by
   obtain ⟨h1, h2, _⟩ := h x (by simp)
   rw [Lib.join_one]
   have := words_none h2
   rw [if_neg h1] at this
   exact this
 | x :: y :: r, h => by
   obtain ⟨h1, h2, _⟩ := h x (by simp)
   rw [join_cons2]
   have := words_app (Lib.join (y :: r) [32]) h2
   rw [if_neg h1] at this
   rw [show wordsF (x ++ 32 :: Lib.join (y :: r) [32]) = [x] ++ wordsF (Lib.join (y :: r) [32]) from this, words_join fun w hw => h w (List.mem_cons_of_mem _ hw)]
   rfl
def digR (n : Int) : Wd := if n < 0 then [63] else digI n
def lisR (l : List Wd) : Wd := if joinF l = [] then [63] else joinF l
def borR (b : Int) : Wd := if b = -1 then ALLW else digR b
def limR (l : Lv) : Wd := [32] ++ digR l.sh ++ [32] ++ digR l.ld ++ [32] ++ borR l.bo
def queR (l : Lv) : Wd := [32, 113, 117, 101, 117, 101, 32] ++ digR l.qu ++ [32] ++ digR l.ha ++ [32] ++ digR l.le ++ [32] ++ digR l.wa ++ [32] ++ digR l.gu
def levR (l : Lv) : Wd := [108, 101, 118, 101, 108, 32] ++ l.nm ++
 (if l.kd = 1 then [32, 101, 120, 101, 109, 112, 116] else if l.kd = 2 then limR l ++ [32, 114, 101, 106, 101, 99, 116] else if l.kd = 3 then limR l ++ queR l else [])
def byR (b : Int) : Wd := if b = 0 then NONE else if b = 1 then USER else if b = 2 then SPACE else [63]
def schR (s : Sm) : Wd := [115, 99, 104, 101, 109, 97, 32] ++ s.nm ++ [32] ++ s.lv ++ [32] ++ digR s.rk ++ [32] ++ byR s.bb
def rulR (r : Rl) : Wd := [114, 117, 108, 101, 32] ++ lisR r.us ++ [32] ++ lisR r.gs ++ [32] ++ lisR r.vs ++ [32] ++ lisR r.rs ++ [32] ++ lisR r.ps
def headR (c : Cf) : List Wd := (if c.tt = 0 then [] else [[116, 111, 116, 97, 108, 32] ++ digR c.tt]) ++ ((if c.pe = 0 then [] else [[112, 101, 114, 105, 111, 100, 32] ++ digR c.pe]) ++
 (if c.pr = 0 ∧ c.mo = 0 then [] else [[115, 101, 97, 116, 115, 32] ++ digR c.pr ++ [32] ++ digR c.mo]))
def smR (s : Sm) : List Wd := schR s :: s.rl.map rulR
def linesR (c : Cf) : List Wd := headR c ++ (c.ls.map levR ++ (c.ss.map smR).flatten)
def J32 (ws : List Wd) : Wd := Lib.join ws [32]
theorem J32_one (x : Wd) : J32 [x] = x := Lib.join_one _ _
theorem J32_two (x y : Wd) (r : List Wd) : J32 (x :: y :: r) = x ++ 32 :: J32 (y :: r) := join_cons2 32 x y r
theorem digR_of {n : Int} (h : 0 ≤ n) : digR n = digI n := by unfold digR; rw [if_neg (by omega)]
theorem borR_of {b : Int} (h : -1 ≤ b) : borR b = borW b := by
 unfold borR borW
 split
 · rfl
 · exact digR_of (by omega)
theorem byR_of {b : Int} (h : inB b 0 2 = true) : byR b = byW b := by
 rw [inB_iff] at h
 have : b = 0 ∨ b = 1 ∨ b = 2 := by omega
 rcases this with rfl | rfl | rfl <;> rfl
theorem lisR_of {l : List Wd} (h : goodF l = true) : lisR l = joinF l := by unfold lisR; rw [if_neg (lis_of h).2.2]
theorem levR_of {l : Lv} (h : levOK l = true) : levR l = J32 (levW l) ∧ (∀ w, w ∈ levW l → clean w) := by
 obtain ⟨nm, kd, sh, ld, bo, qu, ha, le, wa, gu⟩ := l
 simp only [levOK, Bool.and_eq_true] at h
 obtain ⟨hn, h⟩ := h
 have cn := clean_name hn
 have cl : clean LEVEL := by unfold clean; decide
 split at h
 · rename_i e
   try simp only at e
   subst e
   refine ⟨?_, ?_⟩
   · simp [levR, levW, J32_two, J32_one, LEVEL, EXEMPT]
   · intro w hw
     simp only [levW, if_true, List.mem_cons, List.not_mem_nil, or_false] at hw
     rcases hw with rfl | rfl | rfl
     · exact cl
     · exact cn
     · unfold clean; decide
 split at h
 · rename_i e0 e
   try simp only at e
   subst e
   simp only [Bool.and_eq_true, inB_iff] at h
   obtain ⟨_, g1, g2, g3⟩ := h
   refine ⟨?_, ?_⟩
   · simp [levR, levW, limR, J32_two, J32_one, LEVEL, REJECT, digR_of g1.1, digR_of g2.1, borR_of g3.1]
   · intro w hw
     simp only [levW, if_true, List.mem_cons, List.not_mem_nil, or_false, show ¬ ((2 : Int) = 1) by decide, if_false] at hw
     rcases hw with rfl | rfl | rfl | rfl | rfl | rfl
     · exact cl
     · exact cn
     · exact clean_dig _
     · exact clean_dig _
     · exact clean_bor
     · unfold clean; decide
 split at h
 · rename_i e0 e1 e
   try simp only at e
   subst e
   simp only [Bool.and_eq_true, inB_iff] at h
   obtain ⟨⟨q1, q2, q3, q4, q5⟩, g1, g2, g3⟩ := h
   refine ⟨?_, ?_⟩
   · simp [levR, levW, limR, queR, J32_two, J32_one, LEVEL, QUEUE, digR_of g1.1, digR_of g2.1, borR_of g3.1, digR_of (show 0 ≤ qu by omega), digR_of (show 0 ≤ ha by omega), digR_of (show 0 ≤ le by omega), digR_of (show 0 ≤ wa by omega), digR_of (show 0 ≤ gu by omega)]
   · intro w hw
     simp only [levW, if_true, List.mem_cons, List.not_mem_nil, or_false, show ¬ ((3 : Int) = 1) by decide, show ¬ ((3 : Int) = 2) by decide, if_false] at hw
     rcases hw with rfl | rfl | rfl | rfl | rfl | rfl | rfl | rfl | rfl | rfl | rfl
     · exact cl
     · exact cn
     · exact clean_dig _
     · exact clean_dig _
     · exact clean_bor
     · unfold clean; decide
     all_goals exact clean_dig _
 · cases h
theorem schR_of {s : Sm} (h : smOK s = true) : schR s = J32 (sch1 s) ∧ (∀ w, w ∈ sch1 s → clean w) := by
 simp only [smOK, Bool.and_eq_true] at h
 obtain ⟨n1, n2, r, b, _, _⟩ := h
 have r' := r
 rw [inB_iff] at r'
 refine ⟨?_, ?_⟩
 · simp [schR, sch1, J32_two, J32_one, SCHEMA, digR_of (show 0 ≤ s.rk by omega), byR_of b]
 · intro w hw
   simp only [sch1, List.mem_cons, List.not_mem_nil, or_false] at hw
   rcases hw with rfl | rfl | rfl | rfl | rfl
   · unfold clean; decide
   · exact clean_name n1
   · exact clean_name n2
   · exact clean_dig _
   · exact clean_by
theorem rulR_of {r : Rl} (h : rlOK r = true) : rulR r = J32 (rulW r) ∧ (∀ w, w ∈ rulW r → clean w) := by
 simp only [rlOK, Bool.and_eq_true] at h
 obtain ⟨g1, g2, g3, g4, g5⟩ := h
 refine ⟨?_, ?_⟩
 · simp [rulR, rulW, J32_two, J32_one, RULE, lisR_of g1, lisR_of g2, lisR_of g3, lisR_of g4, lisR_of g5]
 · intro w hw
   simp only [rulW, List.mem_cons, List.not_mem_nil, or_false] at hw
   rcases hw with rfl | rfl | rfl | rfl | rfl | rfl
   · unfold clean; decide
   all_goals (apply clean_join; assumption)
theorem allL_ok : ∀ {l p : List Lv}, allL p l = true → ∀ x, x ∈ l → levOK x = true
 | [], _, _, x, hx => by cases hx
 | y :: l, p, h, x, hx => by
   simp only [allL, Bool.and_eq_true] at h
   rcases List.mem_cons.1 hx with rfl | hx
   · exact h.1
   · exact allL_ok h.2.2 x hx
theorem allM_ok : ∀ {l p : List Sm}, allM p l = true → ∀ x, x ∈ l → smOK x = true
 | [], _, _, x, hx => by cases hx
 | y :: l, p, h, x, hx => by
   simp only [allM, Bool.and_eq_true] at h
   rcases List.mem_cons.1 hx with rfl | hx
   · exact h.1
   · exact allM_ok h.2.2 x hx
theorem lines_told {c : Cf} (h : formC c = true) : linesR c = (cfW c).map J32 ∧ ∀ ws, ws ∈ cfW c → ∀ w, w ∈ ws → clean w := by
 simp only [formC, Bool.and_eq_true, decide_eq_true_eq] at h
 obtain ⟨c1, c2, c3, c4, c5, c6, c7, c8, c9⟩ := h
 rw [inB_iff] at c1 c2 c3 c4
 have hL : c.ls.map levR = (c.ls.map levW).map J32 := by
   rw [List.map_map]
   exact List.map_congr_left fun x hx => (levR_of (allL_ok c8 x hx)).1
 have hM : (c.ss.map smR).flatten = ((c.ss.map schW).flatten).map J32 := by
   rw [List.map_flatten, List.map_map]
   congr 1
   refine List.map_congr_left fun x hx => ?_
   have hx' := allM_ok c9 x hx
   show schR x :: x.rl.map rulR = (sch1 x :: x.rl.map rulW).map J32
   rw [List.map_cons, (schR_of hx').1, List.map_map]
   congr 1
   refine List.map_congr_left fun r hr => ?_
   simp only [smOK, Bool.and_eq_true, decide_eq_true_eq] at hx'
   exact (rulR_of (List.all_eq_true.1 hx'.2.2.2.2.2 r hr)).1
 have hH : headR c = (headW c).map J32 := by
   unfold headR headW
   rw [List.map_append, List.map_append]
   congr 1
   · split
     · rfl
     · rw [digR_of c1.1]; simp [J32_two, J32_one, TOTAL]
   congr 1
   · split
     · rfl
     · rw [digR_of c2.1]; simp [J32_two, J32_one, PERIOD]
   · by_cases e : c.pr = 0
     · rw [if_pos ⟨e, c5.1 e⟩, if_pos e]; rfl
     · rw [if_neg (fun h => e h.1), if_neg e, digR_of c3.1, digR_of c4.1]; simp [J32_two, J32_one, SEATS]
 refine ⟨by unfold linesR cfW; rw [hH, hL, hM, List.map_append, List.map_append], ?_⟩
 intro ws hws
 unfold cfW at hws
 rcases List.mem_append.1 hws with h | h
 · unfold headW at h
   rcases List.mem_append.1 h with h | h
   · split at h
     · cases h
     · obtain rfl := List.mem_singleton.1 h
       intro w hw
       simp only [List.mem_cons, List.not_mem_nil, or_false] at hw
       rcases hw with rfl | rfl
       · unfold clean; decide
       · exact clean_dig _
   rcases List.mem_append.1 h with h | h
   · split at h
     · cases h
     · obtain rfl := List.mem_singleton.1 h
       intro w hw
       simp only [List.mem_cons, List.not_mem_nil, or_false] at hw
       rcases hw with rfl | rfl
       · unfold clean; decide
       · exact clean_dig _
   · split at h
     · cases h
     · obtain rfl := List.mem_singleton.1 h
       intro w hw
       simp only [List.mem_cons, List.not_mem_nil, or_false] at hw
       rcases hw with rfl | rfl | rfl
       · unfold clean; decide
       · exact clean_dig _
       · exact clean_dig _
 rcases List.mem_append.1 h with h | h
 · obtain ⟨x, hx, rfl⟩ := List.mem_map.1 h
   exact (levR_of (allL_ok c8 x hx)).2
 · obtain ⟨l, hl, hw⟩ := List.mem_flatten.1 h
   obtain ⟨x, hx, rfl⟩ := List.mem_map.1 hl
   have hx' := allM_ok c9 x hx
   rcases List.mem_cons.1 hw with rfl | hw
   · exact (schR_of hx').2
   · obtain ⟨r, hr, rfl⟩ := List.mem_map.1 hw
     simp only [smOK, Bool.and_eq_true, decide_eq_true_eq] at hx'
     exact (rulR_of (List.all_eq_true.1 hx'.2.2.2.2.2 r hr)).2
def sameL (a b : Lv) : Bool := decide (a.nm = b.nm) && (decide (a.kd = b.kd) && (decide (a.sh = b.sh) && (decide (a.ld = b.ld) && (decide (a.bo = b.bo) && (decide (a.qu = b.qu) && (decide (a.ha = b.ha) && (decide (a.le = b.le) && (decide (a.wa = b.wa) && decide (a.gu = b.gu)))))))))
theorem sameL_iff {a b : Lv} : sameL a b = true ↔ a = b := by
 obtain ⟨a1, a2, a3, a4, a5, a6, a7, a8, a9, a10⟩ := a
 obtain ⟨b1, b2, b3, b4, b5, b6, b7, b8, b9, b10⟩ := b
 simp only [sameL, Bool.and_eq_true, decide_eq_true_eq, Lv.mk.injEq]
instance (a b : Lv) : Decidable (a = b) := decidable_of_iff _ sameL_iff
instance (a b : Rl) : Decidable (a = b) := by
 obtain ⟨a1, a2, a3, a4, a5⟩ := a
 obtain ⟨b1, b2, b3, b4, b5⟩ := b
 exact decidable_of_iff (a1 = b1 ∧ a2 = b2 ∧ a3 = b3 ∧ a4 = b4 ∧ a5 = b5) (by simp)
instance (a b : Sm) : Decidable (a = b) := by
 obtain ⟨a1, a2, a3, a4, a5⟩ := a
 obtain ⟨b1, b2, b3, b4, b5⟩ := b
 exact decidable_of_iff (a1 = b1 ∧ a2 = b2 ∧ a3 = b3 ∧ a4 = b4 ∧ a5 = b5) (by simp)
instance (a b : Cf) : Decidable (a = b) := by
 obtain ⟨a1, a2, a3, a4, a5, a6⟩ := a
 obtain ⟨b1, b2, b3, b4, b5, b6⟩ := b
 exact decidable_of_iff (a1 = b1 ∧ a2 = b2 ∧ a3 = b3 ∧ a4 = b4 ∧ a5 = b5 ∧ a6 = b6) (by simp)
def sameC (a b : Cf) : Bool := decide (a = b)
def formR (c : Cf) : Bool := match runL zeroC ((linesR c).map wordsF) with
 | some d => sameC c d
 | none => false
theorem formR_eq (c : Cf) : formR c = formC c := by
 cases h : formC c with
 | true =>
   obtain ⟨h1, h2⟩ := lines_told h
   unfold formR
   have : (linesR c).map wordsF = cfW c := by
     rw [h1, List.map_map]
     conv => rhs; rw [← List.map_id (cfW c)]
     exact List.map_congr_left fun ws hws => words_join (h2 ws hws)
   rw [this, run_told h]
   exact decide_eq_true rfl
 | false =>
   unfold formR
   cases hr : runL zeroC ((linesR c).map wordsF) with
   | none => rfl
   | some d =>
     have hd := runL_formed zero_formed hr
     show decide (c = d) = false
     refine decide_eq_false fun e => ?_
     rw [e, hd] at h
     cases h
end Go.Proofs.YtpmpajodihpkaaaGreatDoor
