/- The library of this claim and its walks, part 6, joined out of smaller texts. No statement stands in it. -/
import Derived.Test.YtpmpajodihpkaaaGreatDoorUaM5
import Derived.MapKept
import Derived.Laws.BytesArg
import Derived.Laws.IdiomStrings
set_option linter.unusedSimpArgs false
set_option linter.unusedVariables false
namespace Go.Ua
open Go
section
variable {X L : Nat → Prop} {w0 : W0} {w : World} {nt : Nat} {ι : Io} {S : St} {a : Act} {P : Program} {τ : Tab} {R : Rd}
def nilAV (x : AV) : Option AV := match x with
 | .ptr n i o k => some (.ptr n i o k)
 | .d (.vref cs) => some (.d (.vref cs))
 | .d (.iface t d) => some (.d (.iface t d))
 | .iface t d => some (.iface t d)
 | .d (.s (.fn f)) => some (.d (.s (.fn f)))
 | .fn (.func f) cs ds => some (.fn (.func f) cs ds)
 | _ => none
def extractAV (x : AV) (i : Nat) : Option AV := match x with
 | .tup vs => vs[i]?
 | _ => none
def lenAV (A : Ar) (τ : Tab) (t : TypeId) (x : AV) : Option AV :=
 match kindOf τ t, x with
 | .string, .d (.s (.str l)) => some (.d (.s (.int .i64 (A.lenS l))))
 | .slice _, .d (.view _ es) => some (.d (.s (.int .i64 (A.lenD es))))
 | .slice _, .d (.s .sl0) => some (.d (.s (.int .i64 0)))
 | .slice _, .nul => some (.d (.s (.int .i64 0)))
 | .slice _, .own _ _ len _ _ => some (.d (.s (.int .i64 (A.natI len))))
 | .array n _, _ => (match Nat.ble n 9223372036854775807 with
   | true => some (.d (.s (.int .i64 n)))
   | false => none)
 | _, _ => none
def foldInt (f : Int → Int → Int) (k : IntKind) (n : Int) : List AV → Option Int
 | [] => some n
 | .d (.s (.int k' m)) :: r => if k = k' then foldInt f k (f n m) r else none
 | _ => none
def mmAV (f : Int → Int → Int) : List AV → Option AV
 | .d (.s (.int k n)) :: r => (match foldInt f k n r with
   | some m => some (.d (.s (.int k m)))
   | none => none)
 | _ => none
def builtinAV (A : Ar) (τ : Tab) (b : Builtin) (ts : List TypeId) (xs : List AV) : Option AV :=
 match b, ts, xs with
 | .len, t :: _, x :: _ => lenAV A τ t x
 | .max, _, xs => mmAV A.max xs
 | .min, _, xs => mmAV A.min xs
 | _, _, _ => none
theorem len_run (hτ : TabOK P τ) {t : TypeId} {x z : AV} {v : Value} {ts : Array TypeId} {vs : Array Value} {ty : TypeId} (ht : ts[0]? = some t) (hv : vs[0]? = some v) (hx : RepV R ι x v) (h : lenAV Ar.real τ t x = some z) :
   ∃ u, (Builtin.len_ ts ty vs).run P w = .ok u w ∧ RepV R ι z u := by
 unfold lenAV at h
 split at h
 all_goals try (cases h; done)
 · rename_i l hk
   obtain ⟨d, i, y, _, _, hu, _, _, hk'⟩ := kindOf_run hτ hk (fun _ _ => trivial) (by simp)
   simp only [TK.ok] at hk'
   subst hk'
   obtain rfl := Option.some.inj h
   obtain rfl := rep_s hx
   refine ⟨_, ?_, .d _ _ (.s (.int .i64 _) (ok_len (rep_ok hx)))⟩
   simp only [Builtin.len_, ht, hv, Sem.run_bind, run_underlying hu, Result.andThen_ok, Sc.val, goInt, str_size, Sem.run_pure, Ar.real]
 · rename_i e k es hk
   obtain ⟨d, i, y, _, _, hu, _, _, hk'⟩ := kindOf_run hτ hk (fun _ _ => trivial) (by simp)
   simp only [TK.ok] at hk'
   subst hk'
   obtain rfl := Option.some.inj h
   cases rep_d hx with
   | nil => exact ⟨_, by simp only [Builtin.len_, ht, hv, Sem.run_bind, run_underlying hu, Result.andThen_ok, goInt, Sem.run_pure]; rfl, .d _ _ (.s (.int .i64 _) (ok_len (Nat.zero_le _)))⟩
   | view _ _ _ _ _ hc hm => exact ⟨_, by simp only [Builtin.len_, ht, hv, Sem.run_bind, run_underlying hu, Result.andThen_ok, goInt, Sem.run_pure]; rfl, .d _ _ (.s (.int .i64 _) (ok_len (Nat.le_trans hc hm)))⟩
 · rename_i e hk
   obtain ⟨d, i, y, _, _, hu, _, _, hk'⟩ := kindOf_run hτ hk (fun _ _ => trivial) (by simp)
   simp only [TK.ok] at hk'
   subst hk'
   obtain rfl := Option.some.inj h
   obtain rfl := rep_s hx
   exact ⟨_, by simp only [Builtin.len_, ht, hv, Sem.run_bind, run_underlying hu, Result.andThen_ok, goInt, Sem.run_pure, Sc.val]; rfl, .d _ _ (.s (.int .i64 _) (ok_len (Nat.zero_le _)))⟩
 · rename_i e hk
   obtain ⟨d, i, y, _, _, hu, _, _, hk'⟩ := kindOf_run hτ hk (fun _ _ => trivial) (by simp)
   simp only [TK.ok] at hk'
   subst hk'
   obtain rfl := Option.some.inj h
   cases hx with
   | nul a => exact ⟨_, by simp only [Builtin.len_, ht, hv, Sem.run_bind, run_underlying hu, Result.andThen_ok, goInt, Sem.run_pure]; rfl, .d _ _ (.s (.int .i64 _) (ok_len (Nat.zero_le _)))⟩
 · rename_i e n i len k c hk
   obtain ⟨d, ti, y, _, _, hu, _, _, hk'⟩ := kindOf_run hτ hk (fun _ _ => trivial) (by simp)
   simp only [TK.ok] at hk'
   subst hk'
   obtain rfl := Option.some.inj h
   cases hx with
   | own _ _ _ _ _ _ _ _ _ _ hl hm hx => exact ⟨_, by simp only [Builtin.len_, ht, hv, Sem.run_bind, run_underlying hu, Result.andThen_ok, goInt, Sem.run_pure]; rfl, .d _ _ (.s (.int .i64 _) (ok_len (by omega)))⟩
 · rename_i n e hk
   obtain ⟨d, ti, y, _, _, hu, _, _, hk'⟩ := kindOf_run hτ hk (fun _ _ => trivial) (by simp)
   simp only [TK.ok] at hk'
   subst hk'
   split at h
   · rename_i hle
     obtain rfl := Option.some.inj h
     exact ⟨_, by simp only [Builtin.len_, ht, hv, Sem.run_bind, run_underlying hu, Result.andThen_ok, goInt, Sem.run_pure]; rfl, .d _ _ (.s (.int .i64 _) (ok_len (Nat.le_of_ble_eq_true hle)))⟩
   · cases h
theorem fold_ok {f : Int → Int → Int} (hf : ∀ x y, f x y = x ∨ f x y = y) {k : IntKind} : ∀ {xs : List AV} {vs : List Value} {n m : Int}, xs.length = vs.length → (∀ (i : Nat) (c : AV) (v : Value), xs[i]? = some c → vs[i]? = some v → RepV R ι c v) →
   (Sc.int k n).ok → foldInt f k n xs = some m → (Sc.int k m).ok := by
 intro xs
 induction xs with
 | nil => intro vs n m hl hr hn h; simp [foldInt] at h; subst h; exact hn
 | cons x r ih =>
   intro vs n m hl hr hn h
   cases vs with
   | nil => simp at hl
   | cons v vr =>
     unfold foldInt at h
     split at h
     · rename_i h0; cases h0
     · rename_i k' m' r' h0
       cases h0
       split at h
       · rename_i hk
         subst hk
         have h1 := rep_ok (hr 0 _ _ rfl rfl)
         refine ih (by simpa using hl) (fun i c v h1 h2 => hr (i + 1) c v h1 h2) ?_ h
         rcases hf n m' with e | e <;> rw [e] <;> assumption
       · cases h
     · cases h
theorem max_or (x y : Int) : Ar.real.max x y = x ∨ Ar.real.max x y = y := by simp only [Ar.real]; split <;> simp
theorem min_or (x y : Int) : Ar.real.min x y = x ∨ Ar.real.min x y = y := by simp only [Ar.real]; split <;> simp
theorem fold_run {f : Int → Int → Int} {g : Value → Value → Sem Value} (hg : ∀ k x y, g (.int k x) (.int k y) = pure (.int k (f x y))) {k : IntKind} :
   ∀ {xs : List AV} {vs : List Value} {n m : Int}, xs.length = vs.length → (∀ (i : Nat) (c : AV) (v : Value), xs[i]? = some c → vs[i]? = some v → RepV R ι c v) →
     foldInt f k n xs = some m → (vs.foldlM g (.int k n)).run P w = .ok (.int k m) w := by
 intro xs
 induction xs with
 | nil =>
   intro vs n m hl hr h
   have : vs = [] := List.eq_nil_of_length_eq_zero (by simpa using hl.symm)
   subst this
   simp [foldInt] at h
   subst h
   rfl
 | cons x r ih =>
   intro vs n m hl hr h
   cases vs with
   | nil => simp at hl
   | cons v vr =>
     unfold foldInt at h
     split at h
     · rename_i h0; cases h0
     · rename_i k' m' r' h0
       cases h0
       split at h
       · rename_i hk
         subst hk
         have := hr 0 _ _ rfl rfl
         obtain rfl := rep_s this
         have e : (Sc.int k m').val = .int k m' := rfl
         rw [List.foldlM_cons, e, hg]
         simp only [pure_bind]
         exact ih (by simpa using hl) (fun i c v h1 h2 => hr (i + 1) c v h1 h2) h
       · cases h
     · cases h
theorem builtin_run (hτ : TabOK P τ) {b : Builtin} {ts : Array TypeId} {ty : TypeId} {cs : Array Bool} {xs : List AV} {vs : List Value} {z : AV} (hl : xs.length = vs.length)
   (hr : ∀ (i : Nat) (c : AV) (v : Value), xs[i]? = some c → vs[i]? = some v → RepV R ι c v) (h : builtinAV Ar.real τ b ts.toList xs = some z) :
   ∃ u, (builtin b ts ty cs vs.toArray).run P w = .ok (.value u) w ∧ RepV R ι z u := by
 unfold builtinAV at h
 split at h
 · rename_i t tr x xr hts
   obtain ⟨v, vr, rfl⟩ : ∃ v vr, vs = v :: vr := by cases vs <;> simp at hl; exact ⟨_, _, rfl⟩
   obtain ⟨u, hu, hz⟩ := len_run (P := P) (w := w) (ts := ts) (vs := (v :: vr).toArray) (ty := ty) hτ (by rw [← Array.getElem?_toList, hts]; rfl) rfl (hr 0 _ _ rfl rfl) h
   exact ⟨u, by simp [builtin, hu], hz⟩
 · unfold mmAV at h
   split at h
   · rename_i k n r
     obtain ⟨v, vr, rfl⟩ : ∃ v vr, vs = v :: vr := by cases vs <;> simp at hl; exact ⟨_, _, rfl⟩
     split at h
     · rename_i m hm
       obtain rfl := Option.some.inj h
       have h0 := hr 0 _ _ rfl rfl
       have e0 := rep_s h0
       subst e0
       have := fold_run (P := P) (w := w) (g := Builtin.max2) (fun k x y => rfl) (by simpa using hl) (fun i c v h1 h2 => hr (i + 1) c v h1 h2) hm
       refine ⟨.int k m, ?_, .d _ _ (.s (.int k m) (fold_ok max_or (by simpa using hl) (fun i c v h1 h2 => hr (i + 1) c v h1 h2) (rep_ok h0) hm))⟩
       simp [builtin, Builtin.max_, Sc.val, this]
     · cases h
   · cases h
 · unfold mmAV at h
   split at h
   · rename_i k n r
     obtain ⟨v, vr, rfl⟩ : ∃ v vr, vs = v :: vr := by cases vs <;> simp at hl; exact ⟨_, _, rfl⟩
     split at h
     · rename_i m hm
       obtain rfl := Option.some.inj h
       have h0 := hr 0 _ _ rfl rfl
       have e0 := rep_s h0
       subst e0
       have := fold_run (P := P) (w := w) (g := Builtin.min2) (fun k x y => rfl) (by simpa using hl) (fun i c v h1 h2 => hr (i + 1) c v h1 h2) hm
       refine ⟨.int k m, ?_, .d _ _ (.s (.int k m) (fold_ok min_or (by simpa using hl) (fun i c v h1 h2 => hr (i + 1) c v h1 h2) (rep_ok h0) hm))⟩
       simp [builtin, Builtin.min_, Sc.val, this]
     · cases h
   · cases h
 · cases h
def rowOf (S : St) (n : Nat) : Option (Nat × List Dat) := match look n S.h with
 | some (.ds _ k es) => some (k, es)
 | some (.xs _ k _ es _) => some (k, es)
 | _ => none
theorem rowOf_rep (H : HRel X L w0 ι S.h S.fr w) {n k k' : Nat} {es : List Dat} {v : Value} (hv : RepV R ι (.row n k) v) (h : rowOf S n = some (k', es)) :
   (∃ a0, v = .slice a0 0 0 ∧ es = [] ∧ ι n = some .nil) ∨ ∃ b cap, v = .slice (some ⟨b, 0, none⟩) es.length cap ∧ ι n = some (.blk b cap es.length) ∧ es.length ≤ cap ∧ cap ≤ maxLen := by
 unfold rowOf at h
 split at h
 · rename_i E k0 es0 hlook
   simp only [Option.some.injEq, Prod.mk.injEq] at h
   obtain ⟨rfl, rfl⟩ := h
   cases H.hp n _ hlook with
   | ds0 _ _ hi =>
     cases hv with
     | row _ _ b cap len hi' => rw [hi] at hi'; cases hi'
     | row0 _ _ a0 hi' => exact .inl ⟨a0, rfl, rfl, hi⟩
   | ds _ _ _ b cap cur hi hb hl hc hm =>
     cases hv with
     | row _ _ b' cap' len hi' => rw [hi] at hi'; cases hi'; exact .inr ⟨b, cap, rfl, hi, hc, hm⟩
     | row0 _ _ a0 hi' => rw [hi] at hi'; cases hi'
 · rename_i E k0 m0 es0 cells0 hlook
   simp only [Option.some.injEq, Prod.mk.injEq] at h
   obtain ⟨rfl, rfl⟩ := h
   cases H.hp n _ hlook with
   | xs0 _ _ _ _ hi =>
     cases hv with
     | row _ _ b cap len hi' => rw [hi] at hi'; cases hi'
     | row0 _ _ a0 hi' => exact .inl ⟨a0, rfl, rfl, hi⟩
   | xs _ _ _ _ _ b cap cur hi hb hl hc hm =>
     cases hv with
     | row _ _ b' cap' len hi' => rw [hi] at hi'; cases hi'; exact .inr ⟨b, cap, rfl, hi, hc, hm⟩
     | row0 _ _ a0 hi' => rw [hi] at hi'; cases hi'
 · cases h
def rowIndexAV (A : Ar) (τ : Tab) (S : St) (t : TypeId) (n k : Nat) (ix : AV) : Option AV :=
 match ix with
 | .d (.s (.int _ i)) => (match kindOf τ t with
   | .slice e => (match sizeAt τ e, rowOf S n with
     | s + 1, some (_, es) => if k = s + 1 then (match A.inL es i with
       | some j => some (.ptr n j 0 k)
       | none => none) else none
     | _, _ => none)
   | _ => none)
 | _ => none
theorem rowIndex_run (hτ : TabOK P τ) (H : HRel X L w0 ι S.h S.fr w) {t : TypeId} {n k : Nat} {ix z : AV} {v iv : Value} (hx : RepV R ι (.row n k) v) (hi : RepV R ι ix iv)
   (h : rowIndexAV Ar.real τ S t n k ix = some z) : ∃ u, (Instr.indexAt t v iv).run P w = .ok u w ∧ RepV R ι z u := by
 unfold rowIndexAV at h
 split at h
 · rename_i ki i
   obtain rfl := rep_s hi
   split at h
   · rename_i e hk
     obtain ⟨d, ti, y, _, _, hu, _, _, hk'⟩ := kindOf_run hτ hk (fun _ _ => trivial) (by simp)
     simp only [TK.ok] at hk'
     subst hk'
     split at h
     · rename_i s k' es hs hrow
       obtain ⟨i', y', hy', hi', hs'⟩ := sizeAt_run hτ (t := e) (by omega)
       split at h
       · rename_i hks
         split at h
         · rename_i j hj
           obtain rfl := Option.some.inj h
           simp only [Ar.real] at hj
           split at hj
           · rename_i hc
             obtain rfl := Option.some.inj hj
             rcases rowOf_rep H hx hrow with ⟨a0, rfl, rfl, hi0⟩ | ⟨b, cap, rfl, hi2, hcap, hmx0⟩
             · simp at hc; omega
             · refine ⟨.pointer (some ⟨b, i.toNat * k + 0, none⟩), ?_, .ptr _ _ _ _ _ _ _ hi2⟩
               have hke : k = i'.size := by omega
               simp [Instr.indexAt, Sc.val, asIntOf, run_underlying hu, hc.1, hc.2, sizeOf_run hi', Addr.add_lit, ← hke]
           · cases hj
         · cases h
       · cases h
     · cases h
   · cases h
 · cases h
def rowSliceAV (A : Ar) (τ : Tab) (S : St) (t : TypeId) (n k : Nat) (lo hi mx : Option AV) : Option AV :=
 match kindOf τ t with
 | .slice e => (match sizeAt τ e, rowOf S n with
   | s + 1, some (_, es) => if k = s + 1 then (match mx with
     | none => (match bnd lo 0, bnd hi (A.lenD es) with
       | some i, some j => (match A.cutL es i j with
         | some (some (i, l)) => some (.own n i l k none)
         | some none => some (.d (.view k []))
         | none => none)
       | _, _ => none)
     | some (.d (.s (.int _ 0))) => (match lo, hi with
       | none, some (.d (.s (.int _ 0))) => some .nul
       | _, _ => none)
     | _ => none) else none
   | _, _ => none)
 | _ => none
theorem rowSlice_run (hτ : TabOK P τ) (H : HRel X L w0 ι S.h S.fr w) {t : TypeId} {n k : Nat} {z : AV} {v : Value} {lo hi mx : Option AV} {vlo vhi vmx : Option Value} (hx : RepV R ι (.row n k) v)
   (hlo : ∀ y, lo = some y → ∃ u, vlo = some u ∧ RepV R ι y u) (hlo' : lo = none → vlo = none)
   (hhi : ∀ y, hi = some y → ∃ u, vhi = some u ∧ RepV R ι y u) (hhi' : hi = none → vhi = none)
   (hmx : ∀ y, mx = some y → ∃ u, vmx = some u ∧ RepV R ι y u) (hmx' : mx = none → vmx = none)
   (h : rowSliceAV Ar.real τ S t n k lo hi mx = some z) : ∃ u, (Instr.sliceAt t v vlo vhi vmx).run P w = .ok u w ∧ RepV R ι z u := by
 unfold rowSliceAV at h
 split at h
 · rename_i e hk
   obtain ⟨d, ti, y, _, _, hu, _, _, hk'⟩ := kindOf_run hτ hk (fun _ _ => trivial) (by simp)
   simp only [TK.ok] at hk'
   subst hk'
   split at h
   · rename_i s k' es hs hrow
     obtain ⟨i', y', hy', hi', hs'⟩ := sizeAt_run hτ (t := e) (by omega)
     split at h
     · rename_i hks
       have hke : k = i'.size := by omega
       obtain ⟨ad, cap, hv, hcap, hblk⟩ : ∃ ad cap, v = .slice ad es.length cap ∧ (es.length ≤ cap ∧ cap ≤ maxLen) ∧ (es ≠ [] → ∃ b, ad = some ⟨b, 0, none⟩ ∧ ι n = some (.blk b cap es.length)) := by
         rcases rowOf_rep H hx hrow with ⟨a0, rfl, rfl, hi0⟩ | ⟨b, cap, rfl, hi2, hcap, hmx0⟩
         · exact ⟨a0, 0, rfl, ⟨Nat.le_refl _, Nat.zero_le _⟩, fun h => absurd rfl h⟩
         · exact ⟨_, cap, rfl, ⟨hcap, hmx0⟩, fun _ => ⟨b, rfl, hi2⟩⟩
       subst hv
       obtain ⟨hcap, hmx0⟩ := hcap
       split at h
       · obtain rfl := hmx' rfl
         split at h
         · rename_i i j hi1 hj1
           have hlo2 : (vlo = none ∧ i = 0) ∨ ∃ k, vlo = some (.int k i) := by rcases bnd_rep hlo hlo' hi1 with ⟨h1, _, h2⟩ | h1; exact .inl ⟨h1, h2⟩; exact .inr h1
           have hhi2 : (vhi = none ∧ j = (es.length : Int)) ∨ ∃ k, vhi = some (.int k j) := by rcases bnd_rep hhi hhi' hj1 with ⟨h1, _, h2⟩ | h1; exact .inl ⟨h1, h2⟩; exact .inr h1
           have hrun : 0 ≤ i → i ≤ j → j ≤ (es.length : Int) → (Instr.sliceAt t (.slice ad es.length cap) vlo vhi none).run P w =
               .ok (.slice (if cap = i.toNat then ad else ad.map (·.add (i.toNat * i'.size))) (j.toNat - i.toNat) (cap - i.toNat)) w := by
             intro h0 h1 h2
             have hb := bounds_run (P := P) (w := w) (isS := true) (len := es.length) (cap := cap) hlo2 hhi2 h0 h1 (by omega) hcap
             simp only [Instr.sliceAt, Sem.run_bind, run_underlying hu, Result.andThen_ok, Instr.slice, hb, sizeOf_run hi', Sem.run_pure]
           split at h
           · rename_i i1 l1 hcut
             obtain rfl := Option.some.inj h
             simp only [Ar.real] at hcut
             split at hcut
             · rename_i hc
               split at hcut
               · cases hcut
               · rename_i hne
                 simp only [Option.some.injEq, Prod.mk.injEq] at hcut
                 obtain ⟨rfl, rfl⟩ := hcut
                 have hes : es ≠ [] := by intro e0; subst e0; simp at hc; omega
                 obtain ⟨b, rfl, hi2⟩ := hblk hes
                 refine ⟨_, hrun hc.1 hc.2.1 hc.2.2, ?_⟩
                 rw [if_neg (by omega)]
                 simp only [Option.map_some, Addr.add_lit, ← hke, Nat.zero_add]
                 exact .own _ _ _ _ _ _ _ _ _ hi2 (by omega) (by omega) hmx0 (.inl ⟨rfl, by omega⟩)
             · cases hcut
           · rename_i hcut
             obtain rfl := Option.some.inj h
             simp only [Ar.real] at hcut
             split at hcut
             · rename_i hc
               split at hcut
               · rename_i he
                 subst he
                 refine ⟨_, hrun hc.1 hc.2.1 hc.2.2, ?_⟩
                 rw [Nat.sub_self]
                 cases ad with
                 | none =>
                   have hes : es = [] := by
                     by_cases he : es = []
                     · exact he
                     · obtain ⟨b, hb, _⟩ := hblk he; cases hb
                   subst hes
                   have hi0 : i.toNat = 0 := by simp at hc; omega
                   rcases rowOf_rep H hx hrow with ⟨a0, h1, _, _⟩ | ⟨b, cap', h1, _⟩
                   · simp only [Value.slice.injEq] at h1
                     simp only [hi0, h1.2.2]
                     exact .d _ _ (.nil _)
                   · simp at h1
                 | some ad =>
                   have e1 : (if cap = i.toNat then some ad else Option.map (fun x => x.add (i.toNat * i'.size)) (some ad)) = some (if cap = i.toNat then ad else ad.add (i.toNat * i'.size)) := by
                     split <;> rfl
                   rw [e1]
                   exact .d _ _ (.view k [] _ _ (fun _ _ => undef) (Nat.zero_le _) (by omega) (fun h => absurd rfl h) (by simp) (by simp) (by simp))
               · cases hcut
             · cases hcut
           · cases h
         · cases h
       · rename_i kk
         obtain ⟨u, rfl, hu0⟩ := hmx _ rfl
         obtain rfl := rep_s hu0
         split at h
         · rename_i ki
           obtain rfl := Option.some.inj h
           obtain ⟨u, rfl, hr2⟩ := hhi _ rfl
           obtain rfl := rep_s hr2
           obtain rfl := hlo' rfl
           refine ⟨.slice ad 0 0, ?_, .nul ad⟩
           simp [Instr.sliceAt, Sem.run_bind, run_underlying hu, Instr.slice, Instr.sliceBounds, Instr.sliceBound, asIntOf, Sc.val, sizeOf_run hi']
         · cases h
       · cases h
     · cases h
   · cases h
 · cases h
def rowLenAV (A : Ar) (τ : Tab) (S : St) (t : TypeId) (n k : Nat) : Option AV :=
 match kindOf τ t, rowOf S n with
 | .slice _, some (_, es) => some (.d (.s (.int .i64 (A.lenD es))))
 | _, _ => none
theorem rowLen_run (hτ : TabOK P τ) (H : HRel X L w0 ι S.h S.fr w) {t : TypeId} {n k : Nat} {z : AV} {v : Value} {ts : Array TypeId} {vs : Array Value} {ty : TypeId} (ht : ts[0]? = some t) (hv : vs[0]? = some v)
   (hx : RepV R ι (.row n k) v) (h : rowLenAV Ar.real τ S t n k = some z) : ∃ u, (Builtin.len_ ts ty vs).run P w = .ok u w ∧ RepV R ι z u := by
 unfold rowLenAV at h
 split at h
 · rename_i e k' es hk hrow
   obtain ⟨d, i, y, _, _, hu, _, _, hk'⟩ := kindOf_run hτ hk (fun _ _ => trivial) (by simp)
   simp only [TK.ok] at hk'
   subst hk'
   obtain rfl := Option.some.inj h
   rcases rowOf_rep H hx hrow with ⟨a0, rfl, rfl, hi0⟩ | ⟨b, cap, rfl, hi2, hcap, hmx0⟩
   · exact ⟨_, by simp only [Builtin.len_, ht, hv, Sem.run_bind, run_underlying hu, Result.andThen_ok, goInt, Sem.run_pure]; rfl, .d _ _ (.s (.int .i64 _) (ok_len (Nat.zero_le _)))⟩
   · exact ⟨_, by simp only [Builtin.len_, ht, hv, Sem.run_bind, run_underlying hu, Result.andThen_ok, goInt, Sem.run_pure]; rfl, .d _ _ (.s (.int .i64 _) (ok_len (Nat.le_trans hcap hmx0)))⟩
 · cases h
def omap (S : St) (x : Option Operand) : Option AV := match x with
 | some x => some (evl S x)
 | none => none
def strAV (A : Ar) (τ : Tab) (s d : TypeId) (k : Nat) (es : List Dat) : Option AV := match kindOf τ s, kindOf τ d with
 | .slice e, .string => (match kindOf τ e, Nat.beq k 1, A.strD es with
   | .int .u8, true, some l => some (.d (.s (.str l)))
   | _, _, _ => none)
 | _, _ => none
theorem strOf_get : ∀ {es : List Dat} {l : List UInt8}, strOf es = some l → l.length = es.length ∧ ∀ (i : Nat) (hi : i < l.length), es[i]? = some (.s (.int .u8 (l[i].toNat : Int)))
 | [], l, h => by
   simp only [strOf, Option.some.injEq] at h
   subst h
   exact ⟨rfl, fun i hi => by simp at hi⟩
 | x :: r, l, h => by
   unfold strOf at h
   split at h
   · rename_i heq
     cases heq
   · rename_i n r' heq
     cases heq
     split at h
     · rename_i l' hl'
       split at h
       · rename_i hn
         obtain rfl := Option.some.inj h
         obtain ⟨h1, h2⟩ := strOf_get hl'
         refine ⟨by simp [h1], fun i hi => ?_⟩
         cases i with
         | zero => simp only [List.getElem?_cons_zero, List.getElem_cons_zero]; rw [← hn]
         | succ i => simpa using h2 i (by simpa using hi)
       · cases h
     · cases h
   · cases h
theorem str_run (hτ : TabOK P τ) (H : Rel X L w0 nt ι S a w) {s d : TypeId} {k : Nat} {es : List Dat} {v : Value} {z : AV} (hv : RepV (rdOf L ι S.h w) ι (.d (.view k es)) v) (h : strAV Ar.real τ s d k es = some z) :
   ∃ u, (convert s d v).run P w = .ok u w ∧ RepV (rdOf L ι S.h w) ι z u := by
 unfold strAV at h
 split at h
 · rename_i e hs hd
   split at h
   · rename_i l he hk hl
     obtain rfl := Option.some.inj h
     obtain ⟨d1, i1, y1, _, _, hu1, _, _, hk1⟩ := kindOf_run hτ hs (fun _ _ => trivial) (by simp)
     obtain ⟨d2, i2, y2, _, _, hu2, _, _, hk2⟩ := kindOf_run hτ hd (fun _ _ => trivial) (by simp)
     obtain ⟨d3, i3, y3, _, _, hu3, _, _, hk3⟩ := kindOf_run hτ he (fun _ _ => trivial) (by simp)
     simp only [TK.ok] at hk1 hk2 hk3
     subst hk1; subst hk2; subst hk3
     obtain ⟨hlen, hget⟩ := strOf_get hl
     have hv := rep_d hv
     cases hv with
     | nil k =>
       have : l = [] := List.eq_nil_of_length_eq_zero (by simpa using hlen)
       subst this
       exact ⟨_, run_convert_bytes_nil w s e hu1 hu3 0 0 d hu2, .d _ _ (.s (.str []) (Nat.zero_le _))⟩
     | view k es ad cap f hc hmx0 hsp hkk hr hh =>
       refine ⟨.string ⟨l.toArray⟩, ?_, .d _ _ (.s (.str l) (by simp only [Sc.ok]; omega))⟩
       rw [← hlen]
       refine run_convert_bytes_back w s d e ad cap l hu1 hu3 hu2 fun j hj => ?_
       have h1 := hget j hj
       have hne : es ≠ [] := by
         intro e
         rw [e] at h1
         simp at h1
       have h2 := hr j _ 0 (.s (.int .u8 (l[j].toNat : Int))) h1 rfl
       have h3 := hh j _ 0 (.s (.int .u8 (l[j].toNat : Int))) h1 rfl
       have hk1 : k = 1 := by
         have := hkk j _ h1
         simpa [Dat.cells] using this.symm
       subst hk1
       have h4 : ad.add j = ⟨ad.block, ad.off + j * 1 + 0, none⟩ := by
         have := hsp hne
         obtain ⟨b, o, sp⟩ := ad
         simp only at this
         subst this
         simp [Addr.add]
       rw [h4, h2.2.1]
       rw [show f j 0 = (Sc.int .u8 (l[j].toNat : Int)).val from rep_s (R := rdOf L ι S.h w) (ι := ι) (.d _ _ h3)]
       rfl
   · cases h
 · cases h
def mapOf (S : St) (n : Nat) : Option (List UInt8 → Int) := match look n S.h with
 | some (.mp f) => some f
 | _ => none
def mapTy (τ : Tab) (t : TypeId) : Bool := match kindOf τ t with
 | .map kt et => (match kindOf τ kt, look et τ with
   | .string, some y => (match y.k, y.zero with
     | .int .i64, [.int .i64 z] => decide (z = 0)
     | _, _ => false)
   | _, _ => false)
 | _ => false
def lookupAV (A : Ar) (τ : Tab) (S : St) (t : TypeId) (x i : AV) (ok : Bool) : Option AV := match x, i with
 | .mp n, .d (.s (.str s)) => (match ok, mapTy τ t with
   | false, true => (match mapOf S n with
     | some f => some (.d (.s (.int .i64 (A.getM f s))))
     | none => none)
   | _, _ => none)
 | _, _ => none
theorem mapTy_ok (hτ : TabOK P τ) {t : TypeId} (h : mapTy τ t = true) : ∃ kt et i, P.underlying t = some (.map kt et) ∧ P.underlying kt = some .string ∧ P.info? et = some i ∧ i.zero = some (.int .i64 0) := by
 unfold mapTy at h
 split at h
 · rename_i kt et hk
   split at h
   · rename_i y hkt hy
     split at h
     · rename_i z hyk hyz
       obtain rfl := of_decide_eq_true h
       obtain ⟨d, i, hu, hi, hs, hb, hzv, hzl, hkk, hzo, _⟩ := hτ.get hy
       refine ⟨kt, et, i, ?_, ?_, hi, ?_⟩
       · obtain ⟨d, i, y, _, _, hu, _, _, hk'⟩ := kindOf_run hτ hk (fun _ _ => trivial) (by simp)
         simp only [TK.ok] at hk'
         rw [hu, hk']
       · obtain ⟨d, i, y, _, _, hu, _, _, hk'⟩ := kindOf_run hτ hkt (fun _ _ => trivial) (by simp)
         simp only [TK.ok] at hk'
         rw [hu, hk']
       · rw [hzv]
         unfold Ty.zval
         rw [hyk, hyz]
         rfl
     · cases h
   · cases h
 · cases h
theorem string_key (s : List UInt8) : MapKept.IsKey .string (.string ⟨s.toArray⟩) := trivial
theorem mapIs.keys {es : List MapEntry} {f : List UInt8 → Int} (h : mapIs es f) : ∀ x, x ∈ es → MapKept.IsKey .string x.key := by
 intro x hx
 obtain ⟨k, hk, _⟩ := h.2.1 x hx
 rw [hk]
 trivial
theorem lookup_run (hτ : TabOK P τ) (H : HRel X L w0 ι S.h S.fr w) {t : TypeId} {x i z : AV} {v u : Value} {ok : Bool} (hx : RepV (rdOf L ι S.h w) ι x v) (hi : RepV (rdOf L ι S.h w) ι i u) (h : lookupAV Ar.real τ S t x i ok = some z) :
   ∃ r, (Instr.lookup t v u ok).run P w = .ok r w ∧ RepV (rdOf L ι S.h w) ι z r := by
 unfold lookupAV at h
 split at h
 · rename_i n s
   split at h
   · rename_i hm
     split at h
     · rename_i f0 hf
       obtain rfl := Option.some.inj h
       obtain rfl := rep_s hi
       unfold mapOf at hf
       split at hf
       · rename_i f hl
         obtain rfl := Option.some.inj hf
         cases hx with
         | mp _ b c l hn =>
           cases H.hp n _ hl with
           | mp _ b' c' l' es clock hi2 hb hes hbd =>
             rw [hn] at hi2
             cases hi2
             obtain ⟨kt, et, ti, h1, h2, h3, h4⟩ := mapTy_ok hτ hm
             refine ⟨.int .i64 (f s), ?_, .d _ _ (.s (.int .i64 (f s)) (hbd s))⟩
             have hck : (Instr.checkKey es.isEmpty 10000 kt (.string ⟨s.toArray⟩)).run P w = .ok () w := MapKept.run_checkKey h2 (string_key s) _ 9999
             rcases MapKept.findNow_spec (string_key s) es.toList 0 hes.keys with ⟨g1, g2⟩ | ⟨j, e, g1, g2, g3⟩
             · have hz : f s = 0 := hes.2.2 s g2
               simp [Instr.lookup, run_underlying h1, MapKept.run_getObj_map hb, Sc.val, hck, MapKept.run_findKey h2 g1, zeroValue, typeInfo, h3, h4, hz]
             · obtain ⟨k, hk1, hk2⟩ := hes.2.1 e (List.mem_of_getElem? g2)
               rw [hk1] at g3
               have hks : k = s := by simpa using g3
               subst hks
               simp [Instr.lookup, run_underlying h1, MapKept.run_getObj_map hb, Sc.val, hck, MapKept.run_findKey h2 g1, hk2]
       · cases hf
     · cases h
   · cases h
 · cases h
def pureOp (A : Ar) (τ : Tab) (S : St) : Op → Option AV
 | .move x => some (evl S x)
 | .assign x => some (evl S x)
 | .pick c x y => (match evl S c with
   | .d (.s (.bool b)) => (match b with
     | true => some (evl S x)
     | false => some (evl S y))
   | _ => none)
 | .load t p => loadAV τ S t (evl S p)
 | .nilCheck x => nilAV (evl S x)
 | .binOp op t x y _ => binAV A τ op t x y (evl S x) (evl S y)
 | .unOp op _ x => unAV A op (evl S x)
 | .convert s d x => (match evl S x with
   | .d (.view k es) => strAV A τ s d k es
   | v => convAV A τ s d v)
 | .makeInterface t x => ifaceAV τ t (evl S x)
 | .makeFunc f xs ys => some (fnAV f (evls S xs.toList) (evls S ys.toList))
 | .slice t x lo hi mx => (match evl S x with
   | .row n k => rowSliceAV A τ S t n k (omap S lo) (omap S hi) (omap S mx)
   | v => sliceAV A τ t v (omap S lo) (omap S hi) (omap S mx))
 | .fieldAddr t x f => fieldAddrAV τ t (evl S x) f
 | .field t x f => fieldAV τ t (evl S x) f
 | .indexAddr t x i => (match evl S x with
   | .row n k => rowIndexAV A τ S t n k (evl S i)
   | v => (match kindOf τ t with
     | .slice e => (match sizeAt τ e with
       | 0 => none
       | _ + 1 => indexAddrAV A τ t v (evl S i))
     | .array _ e => (match sizeAt τ e with
       | 0 => none
       | _ + 1 => indexAddrAV A τ t v (evl S i))
     | _ => none))
 | .index t x i => indexAV A τ t (evl S x) (evl S i)
 | .lookup t x i ok => lookupAV A τ S t (evl S x) (evl S i) ok
 | .extract x i => extractAV (evl S x) i
 | .build t parts => buildAV τ t (evps S parts.toList)
 | .call c => (match c.callee with
   | .builtin b => (match b, c.argTypes.toList, evls S c.args.toList with
     | .len, t :: _, .row n k :: _ => rowLenAV A τ S t n k
     | b, ts, xs => builtinAV A τ b ts xs)
   | _ => none)
 | _ => none
theorem evls_rep (H : Rel X L w0 nt ι S a w) (l : List Operand) : (evls S l).length = (l.map a.eval).length ∧
   ∀ (i : Nat) (c : AV) (v : Value), (evls S l)[i]? = some c → (l.map a.eval)[i]? = some v → RepV (rdOf L ι S.h w) ι c v := by
 rw [evls_eq]
 refine ⟨by simp, fun i c v hc hv => ?_⟩
 rw [List.getElem?_map, Option.map_eq_some_iff] at hc hv
 obtain ⟨x, hx, rfl⟩ := hc
 obtain ⟨x', hx', rfl⟩ := hv
 rw [hx] at hx'
 cases hx'
 exact H.evl x
theorem omap_rep (H : Rel X L w0 nt ι S a w) (x : Option Operand) : (∀ y, omap S x = some y → ∃ u, x.map a.eval = some u ∧ RepV (rdOf L ι S.h w) ι y u) ∧ (omap S x = none → x.map a.eval = none) := by
 cases x with
 | none => exact ⟨fun y h => by simp [omap] at h, fun _ => rfl⟩
 | some x => exact ⟨fun y h => by simp [omap] at h; subst h; exact ⟨_, rfl, H.evl x⟩, fun h => by simp [omap] at h⟩
theorem pureOp_run (hτ : TabOK P τ) (H : Rel X L w0 nt ι S a w) {o : Oper} {z : AV} (h : pureOp Ar.real τ S o.op = some z) :
   ∃ v, (execOp a.eval o).run P w = .ok (.value v) w ∧ RepV (rdOf L ι S.h w) ι z v := by
 have lift : ∀ {s : Sem Value}, execOp a.eval o = (do pure (.value (← s))) → (∃ u, s.run P w = .ok u w ∧ RepV (rdOf L ι S.h w) ι z u) →
     ∃ v, (execOp a.eval o).run P w = .ok (.value v) w ∧ RepV (rdOf L ι S.h w) ι z v := by
   intro s he ⟨u, hu, hz⟩
   exact ⟨u, by rw [he]; simp [Sem.run_bind, hu], hz⟩
 unfold pureOp at h
 split at h
 · rename_i x ho
   obtain rfl := Option.some.inj h
   exact ⟨a.eval x, by simp [execOp, ho], H.evl x⟩
 · rename_i x ho
   obtain rfl := Option.some.inj h
   exact ⟨a.eval x, by simp [execOp, ho], H.evl x⟩
 · rename_i c x y ho
   have hc := H.evl c
   split at h
   · rename_i b hcv
     rw [hcv] at hc
     have := rep_s hc
     cases b
     · obtain rfl := Option.some.inj h
       exact ⟨a.eval y, by simp [execOp, ho, this, Sc.val, asBool], H.evl y⟩
     · obtain rfl := Option.some.inj h
       exact ⟨a.eval x, by simp [execOp, ho, this, Sc.val, asBool], H.evl x⟩
   · cases h
 · rename_i t p ho
   exact lift (by simp only [execOp, ho]) (load_run hτ H.hr (H.evl p) h)
 · rename_i x ho
   have hx := H.evl x
   unfold nilAV at h
   split at h
   all_goals try (cases h; done)
   all_goals
     rename_i hxv
     obtain rfl := Option.some.inj h
     rw [hxv] at hx
     refine ⟨a.eval x, ?_, hx⟩
     simp only [execOp, ho]
     generalize a.eval x = v at hx ⊢
   · cases hx; simp
   · cases rep_d hx; simp
   · cases rep_d hx; simp
   · cases hx; simp
   · obtain rfl := rep_s hx; simp [Sc.val]
   · cases hx; simp
 · rename_i op t x y yt ho
   exact lift (by simp only [execOp, ho]) (binAV_run hτ H h)
 · rename_i op t x ho
   exact lift (by simp only [execOp, ho]) (un_run (H.evl x) h)
 · rename_i s d x ho
   have hx := H.evl x
   split at h
   · rename_i k es hxv
     rw [hxv] at hx
     exact lift (by simp only [execOp, ho]) (str_run hτ H hx h)
   · exact lift (by simp only [execOp, ho]) (conv_run hτ hx h)
 · rename_i t x ho
   exact lift (by simp only [execOp, ho]) (iface_run hτ (H.evl x) h)
 · rename_i f xs ys ho
   obtain rfl := Option.some.inj h
   obtain ⟨h1, h2⟩ := evls_rep H xs.toList
   obtain ⟨h3, h4⟩ := evls_rep H ys.toList
   refine ⟨.func f (xs.map a.eval) (ys.map a.eval), by simp [execOp, ho, Instr.makeFunc], ?_⟩
   have := fn_rep (R := rdOf L ι S.h w) (f := f) h1 h3 h2 h4
   have e1 : (List.map a.eval xs.toList).toArray = xs.map a.eval := by apply Array.ext'; simp
   have e2 : (List.map a.eval ys.toList).toArray = ys.map a.eval := by apply Array.ext'; simp
   rw [e1, e2] at this
   exact this
 · rename_i t x lo hi mx ho
   obtain ⟨h1, h2⟩ := omap_rep H lo
   obtain ⟨h3, h4⟩ := omap_rep H hi
   obtain ⟨h5, h6⟩ := omap_rep H mx
   have hx := H.evl x
   split at h
   · rename_i n k hxv
     rw [hxv] at hx
     exact lift (by simp only [execOp, ho]) (rowSlice_run hτ H.hr hx h1 h2 h3 h4 h5 h6 h)
   · exact lift (by simp only [execOp, ho]) (slice_run hτ hx h1 h2 h3 h4 h5 h6 h)
 · rename_i t x f ho
   exact lift (by simp only [execOp, ho]) (fieldAddr_run hτ (H.evl x) h)
 · rename_i t x f ho
   exact lift (by simp only [execOp, ho]) (field_run hτ (H.evl x) h)
 · rename_i t x i ho
   have hx := H.evl x
   split at h
   · rename_i n k hxv
     rw [hxv] at hx
     exact lift (by simp only [execOp, ho]) (rowIndex_run hτ H.hr hx (H.evl i) h)
   split at h
   · rename_i e hk
     split at h
     · cases h
     · rename_i n hn
       exact lift (by simp only [execOp, ho]) (indexAddr_run hτ (H.evl x) (H.evl i) (fun e' he' => by
         rcases he' with he' | ⟨c, he'⟩ <;> rw [hk] at he' <;> cases he'
         omega) h)
   · rename_i c e hk
     split at h
     · cases h
     · rename_i n hn
       exact lift (by simp only [execOp, ho]) (indexAddr_run hτ (H.evl x) (H.evl i) (fun e' he' => by
         rcases he' with he' | ⟨c, he'⟩ <;> rw [hk] at he' <;> cases he'
         omega) h)
   · cases h
 · rename_i t x i ho
   exact lift (by simp only [execOp, ho]) (index_run hτ (H.evl x) (H.evl i) h)
 · rename_i t x i ok ho
   exact lift (by simp only [execOp, ho]) (lookup_run hτ H.hr (H.evl x) (H.evl i) h)
 · rename_i x i ho
   have hx := H.evl x
   unfold extractAV at h
   split at h
   · rename_i vs hxv
     rw [hxv] at hx
     refine lift (s := Instr.extract (a.eval x) i) (by simp only [execOp, ho]) ?_
     generalize a.eval x = v at hx ⊢
     cases hx with
     | tup _ us hl hr =>
       have hlt : i < us.length := hl ▸ (List.getElem?_eq_some_iff.1 h).1
       exact ⟨us[i], by simp [Instr.extract, hlt], hr i z _ h (List.getElem?_eq_getElem hlt)⟩
   · cases h
 · rename_i t parts ho
   refine lift (s := Instr.build t (parts.map fun (i, x) => (i, a.eval x))) (by simp only [execOp, ho]) ?_
   rw [evps_eq] at h
   have := build_run (P := P) (w := w) (R := rdOf L ι S.h w) (ι := ι) hτ (vparts := parts.toList.map fun p => (p.1, a.eval p.2)) (by simp) (fun j p q hp hq => by
     rw [List.getElem?_map, Option.map_eq_some_iff] at hp hq
     obtain ⟨x, hx, rfl⟩ := hp
     obtain ⟨x', hx', rfl⟩ := hq
     rw [hx] at hx'
     cases hx'
     exact ⟨rfl, H.evl _⟩) h
   have e : parts.map (fun (i, x) => (i, a.eval x)) = (parts.toList.map fun p => (p.1, a.eval p.2)).toArray := by
     apply Array.ext'
     simp
   rw [e]
   exact this
 · rename_i c ho
   split at h
   · rename_i b hb
     obtain ⟨h1, h2⟩ := evls_rep H c.args.toList
     have e : c.args.map a.eval = (c.args.toList.map a.eval).toArray := by apply Array.ext'; simp
     split at h
     · rename_i t tr n k xr hts hxs
       rw [hxs] at h1 h2
       obtain ⟨v, vr, hvs⟩ : ∃ v vr, c.args.toList.map a.eval = v :: vr := by
         cases hv : c.args.toList.map a.eval
         · rw [hv] at h1; simp at h1
         · exact ⟨_, _, rfl⟩
       rw [hvs] at h2
       obtain ⟨u, hu, hz⟩ := rowLen_run (P := P) (w := w) (ts := c.argTypes) (vs := (v :: vr).toArray) (ty := o.type) hτ H.hr (by rw [← Array.getElem?_toList, hts]; rfl) rfl (h2 0 _ _ rfl rfl) h
       refine ⟨u, ?_, hz⟩
       simp only [execOp, ho, resolve, hb, Sem.run_bind, Sem.run_pure, Result.andThen_ok, invoke]
       rw [e, hvs]
       simp [builtin, hu]
     obtain ⟨u, hu, hz⟩ := builtin_run (P := P) (w := w) hτ (ts := c.argTypes) (ty := o.type) (cs := c.args.map fun | .const _ => true | _ => false) h1 h2 h
     refine ⟨u, ?_, hz⟩
     simp only [execOp, ho, resolve, hb, Sem.run_bind, Sem.run_pure, Result.andThen_ok, invoke]
     rw [e]
     exact hu
   · cases h
 · cases h
end
end Go.Ua
