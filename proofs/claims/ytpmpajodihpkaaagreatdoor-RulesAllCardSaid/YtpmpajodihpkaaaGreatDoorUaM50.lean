/- The library of this claim and its walks, part 50, joined out of smaller texts. No statement stands in it. -/
import Derived.Test.YtpmpajodihpkaaaGreatDoorUaM20
import Derived.Test.YtpmpajodihpkaaaGreatDoorUaM28
import Derived.Handed
import Derived.HandedShaped
import Derived.Lib.LaidTab
import Derived.Shelf.Vars
set_option linter.unusedVariables false
namespace Go.Proofs.YtpmpajodihpkaaaGreatDoor
open Go Go.Proofs Go.Ua
theorem block_of_cell {w : World} {g : Nat} {m : Int} (h : w.cell? ⟨g, 0, none⟩ = some (.int .i64 m)) : ∃ (cs : List Value) (t : TypeId) (fz : Nat × Nat), (∃ m, cs[0]? = some (Value.int .i64 m)) ∧ w.heap[g]? = some (.cells cs.toArray t fz) := by
 unfold World.cell? at h
 split at h
 · rename_i cs t fz hb
   exact ⟨cs.toList, t, fz, ⟨m, by simpa using h⟩, by simpa using hb⟩
 · cases h
theorem ret_and_shaped {H : Type} {enc : TypeId × Value → H} {a : Assume} {C : Checked} {os : Os} {f : FuncId} {fn : Func} {s : ChangeSpec} {conds : List PathCond} {apart fresh handsOn again : Bool} {X : World → Array Value → Prop}
   (hX : ∀ (w w' : World) (args : Array Value), w.heap = w'.heap → X w args → X w' args)
   (own : ownKnob C.prog.godebug = none) (started : os.Started) (noInit : C.prog.inits.idxOf? f = none) (hfn : C.prog.funcs[f]? = some fn)
   (witness : ∃ (w : World) (tape : Tape) (i : Input), w.os = os ∧ (w.forCall tape i).Shaped C.prog ∧ i.vars = [] ∧ Input.okWide C.prog (w.forCall tape i) .any w.heap.size f i ∧
     ((s.pre enc C.prog fn conds apart (w.forCall tape i).memory i.args ∧ X (w.forCall tape i).memory i.args) ∧ sizedMet enc C.prog fn (OpenSpec.ofChange s) apart (w.forCall tape i).memory i.args) ∧ a.holds C.prog (lone (Frame.enter C.prog f i.args .normal) [] (w.forCall tape i)))
   (contract : ∀ (W : World) (base : Nat) (args : Array Value) (ds gs : List (DataW H)) (before : List MemPlace),
     (∀ (j : Nat) t v, fn.params[j]? = some t → args[j]? = some v → Value.okWide C.prog W .any base t v) →
     DataW.Whole enc C.prog fn.params.toList s.vars apart W args.toList ds gs before →
     (DataW.weightsEach C.prog (fn.params.toList ++ s.plain.varTypes C.prog) (ds ++ gs)).all (· ≤ reachBytes) = true → X W args → W.ShapedOpen C.prog →
     Calls C.prog f args W fun e W' => ∃ v, e = .returned v ∧ s.post enc C.prog fn apart fresh handsOn again W args v W') :
   ReturnsInHanded a C os f .any (fun w args => (s.pre enc C.prog fn conds apart w args ∧ X w args) ∧ sizedMet enc C.prog fn (OpenSpec.ofChange s) apart w args) (s.post enc C.prog fn apart fresh handsOn again) := by
 refine returnsInHanded_of_calls own started noInit witness ?_
 intro w tape i _ hsh _ hok hpre _
 obtain ⟨_, _, _, g, hg, _, _, _, _, hval⟩ := hok
 obtain rfl : g = fn := Option.some.inj (hg.symm.trans hfn)
 obtain ⟨⟨⟨ds, gs, before, hw, _⟩, hx⟩, hz⟩ := hpre
 refine (contract (w.forCall tape i) w.heap.size i.args ds gs before hval (DataW.Whole.of_heap (w' := w.forCall tape i) (by rfl) hw) (hz.weights hw) (hX _ _ _ (by rfl) hx) hsh).mono ?_
 rintro e W' ⟨v, he, hp⟩
 subst he
 exact ChangeSpec.post_blind hp
end Go.Proofs.YtpmpajodihpkaaaGreatDoor
namespace Go.Proofs.YtpmpajodihpkaaaGreatDoor
open Go Go.Proofs Go.Ua Go.Extern
theorem typed_strs {f : Nat} {l : List Dat} (h : typed tab (f + 2) 44 l) : ∃ zs, l = [.view 1 (strDs zs)] := by
 obtain ⟨es, rfl, hlen, hes⟩ := h
 clear hlen
 have : ∃ zs, es = strDs zs := by
   induction es with
   | nil => exact ⟨[], rfl⟩
   | cons x es ih =>
     obtain ⟨zs, rfl⟩ := ih fun x hx => hes x (List.mem_cons_of_mem _ hx)
     obtain ⟨l', rfl, s, rfl, _⟩ := hes x (by simp)
     exact ⟨s :: zs, rfl⟩
 obtain ⟨zs, rfl⟩ := this
 exact ⟨zs, rfl⟩
end Go.Proofs.YtpmpajodihpkaaaGreatDoor
namespace Go.Proofs.YtpmpajodihpkaaaGreatDoor
open Go Go.Proofs Go.Ua Go.Extern
theorem list_of {α : Type} {g : α → Dat} {P : List Dat → Prop} (hP : ∀ l', P l' → ∃ x, oneD true l' = g x) : ∀ {es : List Dat}, (∀ x, x ∈ es → ∃ l', x = oneD true l' ∧ P l') → ∃ xs : List α, es = xs.map g
 | [], _ => ⟨[], rfl⟩
 | e :: es, h => by
   obtain ⟨l', e1, h1⟩ := h e (by simp)
   obtain ⟨x, hx⟩ := hP l' h1
   obtain ⟨xs, hxs⟩ := list_of hP (es := es) fun y hy => h y (List.mem_cons_of_mem _ hy)
   exact ⟨x :: xs, by rw [e1, hx, hxs]; rfl⟩
theorem len10 {α : Type} {l : List α} (h : l.length = 10) : ∃ a b c d e f g i j k, l = [a, b, c, d, e, f, g, i, j, k] := by
 match l, h with
 | [a, b, c, d, e, f, g, i, j, k], _ => exact ⟨a, b, c, d, e, f, g, i, j, k, rfl⟩
theorem len5 {α : Type} {l : List α} (h : l.length = 5) : ∃ a b c d e, l = [a, b, c, d, e] := by
 match l, h with
 | [a, b, c, d, e], _ => exact ⟨a, b, c, d, e, rfl⟩
theorem len6 {α : Type} {l : List α} (h : l.length = 6) : ∃ a b c d e f, l = [a, b, c, d, e, f] := by
 match l, h with
 | [a, b, c, d, e, f], _ => exact ⟨a, b, c, d, e, f, rfl⟩
theorem typed_level {f : Nat} {l : List Dat} (h : typed tab (f + 2) 40 l) : ∃ x : Lv, oneD true l = x.dat := by
 obtain ⟨ms, hlen, rfl, hall⟩ := h
 obtain ⟨a, b, c, d, e, g, i, j, k, m, rfl⟩ := len10 hlen
 obtain ⟨s0, rfl, _⟩ := hall 0 (0, 9) a rfl rfl
 obtain ⟨n1, rfl, _⟩ := hall 1 (1, 3) b rfl rfl
 obtain ⟨n2, rfl, _⟩ := hall 2 (2, 3) c rfl rfl
 obtain ⟨n3, rfl, _⟩ := hall 3 (3, 3) d rfl rfl
 obtain ⟨n4, rfl, _⟩ := hall 4 (4, 3) e rfl rfl
 obtain ⟨n5, rfl, _⟩ := hall 5 (5, 3) g rfl rfl
 obtain ⟨n6, rfl, _⟩ := hall 6 (6, 3) i rfl rfl
 obtain ⟨n7, rfl, _⟩ := hall 7 (7, 3) j rfl rfl
 obtain ⟨n8, rfl, _⟩ := hall 8 (8, 3) k rfl rfl
 obtain ⟨n9, rfl, _⟩ := hall 9 (9, 3) m rfl rfl
 exact ⟨⟨s0, n1, n2, n3, n4, n5, n6, n7, n8, n9⟩, rfl⟩
theorem typed_rule {f : Nat} {l : List Dat} (h : typed tab (f + 3) 46 l) : ∃ x : Rl, oneD true l = x.dat := by
 obtain ⟨ms, hlen, rfl, hall⟩ := h
 obtain ⟨a, b, c, d, e, rfl⟩ := len5 hlen
 obtain ⟨z0, rfl⟩ := typed_strs (f := f) (hall 0 (0, 44) a rfl rfl)
 obtain ⟨z1, rfl⟩ := typed_strs (f := f) (hall 1 (1, 44) b rfl rfl)
 obtain ⟨z2, rfl⟩ := typed_strs (f := f) (hall 2 (2, 44) c rfl rfl)
 obtain ⟨z3, rfl⟩ := typed_strs (f := f) (hall 3 (3, 44) d rfl rfl)
 obtain ⟨z4, rfl⟩ := typed_strs (f := f) (hall 4 (4, 44) e rfl rfl)
 exact ⟨⟨z0, z1, z2, z3, z4⟩, rfl⟩
theorem typed_rules {f : Nat} {l : List Dat} (h : typed tab (f + 4) 41 l) : ∃ q : List Rl, l = [.view 5 (rlDs q)] := by
 obtain ⟨es, rfl, _, hes⟩ := h
 obtain ⟨q, rfl⟩ := list_of (g := Rl.dat) (P := typed tab (f + 3) 46) (fun l' h' => typed_rule h') hes
 exact ⟨q, rfl⟩
theorem typed_schema {f : Nat} {l : List Dat} (h : typed tab (f + 5) 43 l) : ∃ x : Sm, oneD true l = x.dat := by
 obtain ⟨ms, hlen, rfl, hall⟩ := h
 obtain ⟨a, b, c, d, e, rfl⟩ := len5 hlen
 obtain ⟨s0, rfl, _⟩ := hall 0 (0, 9) a rfl rfl
 obtain ⟨s1, rfl, _⟩ := hall 1 (1, 9) b rfl rfl
 obtain ⟨n2, rfl, _⟩ := hall 2 (2, 3) c rfl rfl
 obtain ⟨n3, rfl, _⟩ := hall 3 (3, 3) d rfl rfl
 obtain ⟨q, rfl⟩ := typed_rules (hall 4 (4, 41) e rfl rfl)
 exact ⟨⟨s0, s1, n2, n3, q⟩, rfl⟩
theorem typed_config {f : Nat} {l : List Dat} (h : typed tab (f + 7) 25 l) : ∃ c : Cf, l = c.cells := by
 obtain ⟨ms, hlen, rfl, hall⟩ := h
 obtain ⟨a, b, c, d, e, g, rfl⟩ := len6 hlen
 obtain ⟨n0, rfl, _⟩ := hall 0 (0, 3) a rfl rfl
 obtain ⟨n1, rfl, _⟩ := hall 1 (1, 3) b rfl rfl
 obtain ⟨n2, rfl, _⟩ := hall 2 (2, 3) c rfl rfl
 obtain ⟨n3, rfl, _⟩ := hall 3 (3, 3) d rfl rfl
 obtain ⟨es, rfl, _, hes⟩ := hall 4 (4, 22) e rfl rfl
 obtain ⟨ls, rfl⟩ := list_of (g := Lv.dat) (P := typed tab (f + 5) 40) (fun l' h' => typed_level h') hes
 obtain ⟨ds, rfl, _, hds⟩ := hall 5 (5, 23) g rfl rfl
 obtain ⟨ss, rfl⟩ := list_of (g := Sm.dat) (P := typed tab (f + 5) 43) (fun l' h' => typed_schema h') hds
 exact ⟨⟨n0, n1, n2, n3, ls, ss⟩, rfl⟩
end Go.Proofs.YtpmpajodihpkaaaGreatDoor
